-- packed by wip/tools/pack.py
-- Written by wip/tools/print2.py, a program of this session, over the kit's print of the program. Lean checks it.
import Derived.Test.YthdphjbecibeaaaPCoverCellsx0
import Derived.Test.YthdphjbecibeaaaPCoverCellsx1
import Derived.Test.YthdphjbecibeaaaPCoverCellsx3
import Derived.Test.YthdphjbecibeaaaPCoverCellsx9
import Derived.Test.YthdphjbecibeaaaPCoverCellsx11
namespace Go.Proofs.Ythdphjbecibeaaa.PCoverCells
open Go.RowKit Go.Proofs.YthdphjbecibeaaaW.PrintWords Go.Proofs.YthdphjbecibeaaaW.PrintLast Go.Proofs.YthdphjbecibeaaaW.PrintMore
attribute [local go_sem] max2_int min2_int max_two min_two max_three min_three max_four min_four   -- for this text's walks alone
open List renaming setIfInBounds_toArray → lsA, set_cons_zero → ls0, set_cons_succ → ls1
set_option linter.unusedVariables false
set_option linter.unusedSimpArgs false

/-! ### pantilelaw33_CoverCells: function 14 -/
mutual
def pantilelaw33_CoverCells.j0 : Nat → Int → Bool → List Int → List Int → Option (Bool)
  | 0, _, _, _, _ => none
  | k + 1, x1, x27, x292000, x292001 => if x27 = true then (some true) else ((pantileref03_Right.f x292000 x292001).bind fun t293 => (if t293 = true then (pantilelaw33_CoverCells.j1 k x1 (decide ((x292000.length : Int) > 3)) x292000 x292001) else (pantilelaw33_CoverCells.j1 k x1 false x292000 x292001)))
def pantilelaw33_CoverCells.j1 : Nat → Int → Bool → List Int → List Int → Option (Bool)
  | 0, _, _, _, _ => none
  | k + 1, x1, x35, x292000, x292001 => if x35 = true then (some true) else ((cover_Cells.f k x292000 x292001 x1).bind fun bt294 => ((cover_Least.f k x292000 x292001).bind fun bt298 => ((pantileref03_Right.f x292000 x292001).bind fun t304 => (if t304 = true then ((pantileref03_Empty.f k x292000 x292001).bind fun t305 => (if t305 = true then (if (bt294.1.length : Int) = 0 then (if ((decide (x1 < 0)) == (bt294.2 == 11)) = true then (if ((decide (x1 < 0)) == (bt294.2 != 0)) = true then (if (bt298.1.length : Int) = 0 then (some (bt298.2.2 == 3)) else (some false)) else (some false)) else (some false)) else (some false)) else ((pantileref01_Part.f k x292000 x292001).bind fun t306 => (if bt298.2.2 = 0 then (if bt298.2.1 = t306 then ((pantileref01_Cut.f k x292000 t306).bind fun t307 => ((pantileref01_Same.f k bt298.1 t307).bind fun t310 => (pantilelaw33_CoverCells.j2 k x1 bt294.1 bt294.2 (!t310) x292000 x292001))) else (pantilelaw33_CoverCells.j2 k x1 bt294.1 bt294.2 true x292000 x292001)) else (pantilelaw33_CoverCells.j2 k x1 bt294.1 bt294.2 true x292000 x292001))))) else (if (bt294.1.length : Int) = 0 then (if bt294.2 = 2 then (if (bt298.1.length : Int) = 0 then (some (bt298.2.2 == 2)) else (some false)) else (some false)) else (some false))))))
def pantilelaw33_CoverCells.j2 : Nat → Int → List (S89) → Int → Bool → List Int → List Int → Option (Bool)
  | 0, _, _, _, _, _, _ => none
  | k + 1, x1, x5, x6, x118, x292000, x292001 => if x118 = true then (some false) else (if 0 ≤ (x292000.length : Int) then (if ((x292000.length : Int) : Int).toNat ≤ 35184372088832 then ((pantileref33_Cells.f k (List.replicate ((x292000.length : Int) : Int).toNat 0) 63 x292000 x292001 (mx x1 0)).bind fun t314 => (if (t314.length : Int) > x1 then (if (x5.length : Int) = 0 then (some (x6 == 11)) else (some false)) else (if x6 = 0 then (pantilelaw33_CoverCells.j3 k x5 t314 ((x5.length : Int) != (t314.length : Int))) else (pantilelaw33_CoverCells.j3 k x5 t314 true)))) else (none)) else (none))
def pantilelaw33_CoverCells.j3 : Nat → List (S89) → List (S94) → Bool → Option (Bool)
  | 0, _, _, _ => none
  | k + 1, x5, x10, x147 => if x147 = true then (some false) else (pantilelaw33_CoverCells.l0 k x5 x10 0)
def pantilelaw33_CoverCells.l0 : Nat → List (S89) → List (S94) → Int → Option (Bool)
  | 0, _, _, _ => none
  | k + 1, x5, x10, x11 => if x11 < (x5.length : Int) then (if 0 ≤ x11 then (if x11 < (x10.length : Int) then (if ((rd_T89 x5 x11).f1) = ((rd_T94 x10 x11).f1) then ((pantileref01_Same.f k ((rd_T89 x5 x11).f0) ((rd_T94 x10 x11).f0)).bind fun t321 => (if t321 = true then (pantilelaw33_CoverCells.l0 k x5 x10 (wrap64 (x11 + 1))) else (some false))) else (some false)) else (none)) else (none)) else (some true)
end
def pantilelaw33_CoverCells.f (k : Nat) (l0_0 : List Int) (l0_1 : List Int) (a1 : Int) : Option (Bool) := (pantilelaw33_awake.f k).bind fun t292 => (if t292 = true then (if (l0_0.length : Int) > 40 then (pantilelaw33_CoverCells.j0 k a1 true l0_0 l0_1) else (if (l0_1.length : Int) > 40 then (pantilelaw33_CoverCells.j0 k a1 true l0_0 l0_1) else (pantilelaw33_CoverCells.j0 k a1 (decide (a1 > 60)) l0_0 l0_1))) else (some false))
theorem pantilelaw33_CoverCells.mono_l : ∀ k, (∀ y0 y1 y2 y3, LeO (pantilelaw33_CoverCells.j0 k y0 y1 y2 y3) (pantilelaw33_CoverCells.j0 (k + 1) y0 y1 y2 y3)) ∧ (∀ y0 y1 y2 y3, LeO (pantilelaw33_CoverCells.j1 k y0 y1 y2 y3) (pantilelaw33_CoverCells.j1 (k + 1) y0 y1 y2 y3)) ∧ (∀ y0 y1 y2 y3 y4 y5, LeO (pantilelaw33_CoverCells.j2 k y0 y1 y2 y3 y4 y5) (pantilelaw33_CoverCells.j2 (k + 1) y0 y1 y2 y3 y4 y5)) ∧ (∀ y0 y1 y2, LeO (pantilelaw33_CoverCells.j3 k y0 y1 y2) (pantilelaw33_CoverCells.j3 (k + 1) y0 y1 y2)) ∧ (∀ y0 y1 y2, LeO (pantilelaw33_CoverCells.l0 k y0 y1 y2) (pantilelaw33_CoverCells.l0 (k + 1) y0 y1 y2))
  | 0 => ⟨fun _ _ _ _ r h => by simp [pantilelaw33_CoverCells.j0] at h, fun _ _ _ _ r h => by simp [pantilelaw33_CoverCells.j1] at h, fun _ _ _ _ _ _ r h => by simp [pantilelaw33_CoverCells.j2] at h, fun _ _ _ r h => by simp [pantilelaw33_CoverCells.j3] at h, fun _ _ _ r h => by simp [pantilelaw33_CoverCells.l0] at h⟩
  | k + 1 => by
    obtain ⟨ih0, ih1, ih2, ih3, ih4⟩ := pantilelaw33_CoverCells.mono_l k
    refine ⟨?_, ?_, ?_, ?_, ?_⟩
    · intro y0 y1 y2 y3
      unfold pantilelaw33_CoverCells.j0
      repeat' first
      | (with_reducible exact ih0 _ _ _ _)
      | (with_reducible exact ih1 _ _ _ _)
      | (with_reducible exact ih2 _ _ _ _ _ _)
      | (with_reducible exact ih3 _ _ _)
      | (with_reducible exact ih4 _ _ _)
      | (with_reducible exact cover_Cells.mono _ _ _ _)
      | (with_reducible exact cover_Least.mono _ _ _)
      | (with_reducible exact pantilelaw33_awake.mono _)
      | (with_reducible exact pantileref01_Cut.mono _ _ _)
      | (with_reducible exact pantileref01_Part.mono _ _ _)
      | (with_reducible exact pantileref01_Same.mono _ _ _)
      | (with_reducible exact pantileref03_Empty.mono _ _ _)
      | (with_reducible exact pantileref33_Cells.mono _ _ _ _ _ _)
      | (with_reducible exact LeO.refl _)
      | (with_reducible exact LeO.none _)
      | (with_reducible refine LeO.ite ?_ ?_)
      | (with_reducible refine LeO.bind ?_ (fun _ => ?_))
      | exact ih0 _ _ _ _
      | exact ih1 _ _ _ _
      | exact ih2 _ _ _ _ _ _
      | exact ih3 _ _ _
      | exact ih4 _ _ _
      | exact cover_Cells.mono _ _ _ _
      | exact cover_Least.mono _ _ _
      | exact pantilelaw33_awake.mono _
      | exact pantileref01_Cut.mono _ _ _
      | exact pantileref01_Part.mono _ _ _
      | exact pantileref01_Same.mono _ _ _
      | exact pantileref03_Empty.mono _ _ _
      | exact pantileref33_Cells.mono _ _ _ _ _ _
      | exact LeO.none _
      | refine LeO.ite ?_ ?_
      | refine LeO.bind ?_ (fun _ => ?_)
    · intro y0 y1 y2 y3
      unfold pantilelaw33_CoverCells.j1
      repeat' first
      | (with_reducible exact ih0 _ _ _ _)
      | (with_reducible exact ih1 _ _ _ _)
      | (with_reducible exact ih2 _ _ _ _ _ _)
      | (with_reducible exact ih3 _ _ _)
      | (with_reducible exact ih4 _ _ _)
      | (with_reducible exact cover_Cells.mono _ _ _ _)
      | (with_reducible exact cover_Least.mono _ _ _)
      | (with_reducible exact pantilelaw33_awake.mono _)
      | (with_reducible exact pantileref01_Cut.mono _ _ _)
      | (with_reducible exact pantileref01_Part.mono _ _ _)
      | (with_reducible exact pantileref01_Same.mono _ _ _)
      | (with_reducible exact pantileref03_Empty.mono _ _ _)
      | (with_reducible exact pantileref33_Cells.mono _ _ _ _ _ _)
      | (with_reducible exact LeO.refl _)
      | (with_reducible exact LeO.none _)
      | (with_reducible refine LeO.ite ?_ ?_)
      | (with_reducible refine LeO.bind ?_ (fun _ => ?_))
      | exact ih0 _ _ _ _
      | exact ih1 _ _ _ _
      | exact ih2 _ _ _ _ _ _
      | exact ih3 _ _ _
      | exact ih4 _ _ _
      | exact cover_Cells.mono _ _ _ _
      | exact cover_Least.mono _ _ _
      | exact pantilelaw33_awake.mono _
      | exact pantileref01_Cut.mono _ _ _
      | exact pantileref01_Part.mono _ _ _
      | exact pantileref01_Same.mono _ _ _
      | exact pantileref03_Empty.mono _ _ _
      | exact pantileref33_Cells.mono _ _ _ _ _ _
      | exact LeO.none _
      | refine LeO.ite ?_ ?_
      | refine LeO.bind ?_ (fun _ => ?_)
    · intro y0 y1 y2 y3 y4 y5
      unfold pantilelaw33_CoverCells.j2
      repeat' first
      | (with_reducible exact ih0 _ _ _ _)
      | (with_reducible exact ih1 _ _ _ _)
      | (with_reducible exact ih2 _ _ _ _ _ _)
      | (with_reducible exact ih3 _ _ _)
      | (with_reducible exact ih4 _ _ _)
      | (with_reducible exact cover_Cells.mono _ _ _ _)
      | (with_reducible exact cover_Least.mono _ _ _)
      | (with_reducible exact pantilelaw33_awake.mono _)
      | (with_reducible exact pantileref01_Cut.mono _ _ _)
      | (with_reducible exact pantileref01_Part.mono _ _ _)
      | (with_reducible exact pantileref01_Same.mono _ _ _)
      | (with_reducible exact pantileref03_Empty.mono _ _ _)
      | (with_reducible exact pantileref33_Cells.mono _ _ _ _ _ _)
      | (with_reducible exact LeO.refl _)
      | (with_reducible exact LeO.none _)
      | (with_reducible refine LeO.ite ?_ ?_)
      | (with_reducible refine LeO.bind ?_ (fun _ => ?_))
      | exact ih0 _ _ _ _
      | exact ih1 _ _ _ _
      | exact ih2 _ _ _ _ _ _
      | exact ih3 _ _ _
      | exact ih4 _ _ _
      | exact cover_Cells.mono _ _ _ _
      | exact cover_Least.mono _ _ _
      | exact pantilelaw33_awake.mono _
      | exact pantileref01_Cut.mono _ _ _
      | exact pantileref01_Part.mono _ _ _
      | exact pantileref01_Same.mono _ _ _
      | exact pantileref03_Empty.mono _ _ _
      | exact pantileref33_Cells.mono _ _ _ _ _ _
      | exact LeO.none _
      | refine LeO.ite ?_ ?_
      | refine LeO.bind ?_ (fun _ => ?_)
    · intro y0 y1 y2
      unfold pantilelaw33_CoverCells.j3
      repeat' first
      | (with_reducible exact ih0 _ _ _ _)
      | (with_reducible exact ih1 _ _ _ _)
      | (with_reducible exact ih2 _ _ _ _ _ _)
      | (with_reducible exact ih3 _ _ _)
      | (with_reducible exact ih4 _ _ _)
      | (with_reducible exact cover_Cells.mono _ _ _ _)
      | (with_reducible exact cover_Least.mono _ _ _)
      | (with_reducible exact pantilelaw33_awake.mono _)
      | (with_reducible exact pantileref01_Cut.mono _ _ _)
      | (with_reducible exact pantileref01_Part.mono _ _ _)
      | (with_reducible exact pantileref01_Same.mono _ _ _)
      | (with_reducible exact pantileref03_Empty.mono _ _ _)
      | (with_reducible exact pantileref33_Cells.mono _ _ _ _ _ _)
      | (with_reducible exact LeO.refl _)
      | (with_reducible exact LeO.none _)
      | (with_reducible refine LeO.ite ?_ ?_)
      | (with_reducible refine LeO.bind ?_ (fun _ => ?_))
      | exact ih0 _ _ _ _
      | exact ih1 _ _ _ _
      | exact ih2 _ _ _ _ _ _
      | exact ih3 _ _ _
      | exact ih4 _ _ _
      | exact cover_Cells.mono _ _ _ _
      | exact cover_Least.mono _ _ _
      | exact pantilelaw33_awake.mono _
      | exact pantileref01_Cut.mono _ _ _
      | exact pantileref01_Part.mono _ _ _
      | exact pantileref01_Same.mono _ _ _
      | exact pantileref03_Empty.mono _ _ _
      | exact pantileref33_Cells.mono _ _ _ _ _ _
      | exact LeO.none _
      | refine LeO.ite ?_ ?_
      | refine LeO.bind ?_ (fun _ => ?_)
    · intro y0 y1 y2
      unfold pantilelaw33_CoverCells.l0
      repeat' first
      | (with_reducible exact ih0 _ _ _ _)
      | (with_reducible exact ih1 _ _ _ _)
      | (with_reducible exact ih2 _ _ _ _ _ _)
      | (with_reducible exact ih3 _ _ _)
      | (with_reducible exact ih4 _ _ _)
      | (with_reducible exact cover_Cells.mono _ _ _ _)
      | (with_reducible exact cover_Least.mono _ _ _)
      | (with_reducible exact pantilelaw33_awake.mono _)
      | (with_reducible exact pantileref01_Cut.mono _ _ _)
      | (with_reducible exact pantileref01_Part.mono _ _ _)
      | (with_reducible exact pantileref01_Same.mono _ _ _)
      | (with_reducible exact pantileref03_Empty.mono _ _ _)
      | (with_reducible exact pantileref33_Cells.mono _ _ _ _ _ _)
      | (with_reducible exact LeO.refl _)
      | (with_reducible exact LeO.none _)
      | (with_reducible refine LeO.ite ?_ ?_)
      | (with_reducible refine LeO.bind ?_ (fun _ => ?_))
      | exact ih0 _ _ _ _
      | exact ih1 _ _ _ _
      | exact ih2 _ _ _ _ _ _
      | exact ih3 _ _ _
      | exact ih4 _ _ _
      | exact cover_Cells.mono _ _ _ _
      | exact cover_Least.mono _ _ _
      | exact pantilelaw33_awake.mono _
      | exact pantileref01_Cut.mono _ _ _
      | exact pantileref01_Part.mono _ _ _
      | exact pantileref01_Same.mono _ _ _
      | exact pantileref03_Empty.mono _ _ _
      | exact pantileref33_Cells.mono _ _ _ _ _ _
      | exact LeO.none _
      | refine LeO.ite ?_ ?_
      | refine LeO.bind ?_ (fun _ => ?_)
theorem pantilelaw33_CoverCells.mono : ∀ a0 a1 a2 k, LeO (pantilelaw33_CoverCells.f k a0 a1 a2) (pantilelaw33_CoverCells.f (k + 1) a0 a1 a2) := by
  intro a0 a1 a2 k
  obtain ⟨ih0, ih1, ih2, ih3, ih4⟩ := pantilelaw33_CoverCells.mono_l k
  unfold pantilelaw33_CoverCells.f
  repeat' first
      | (with_reducible exact ih0 _ _ _ _)
      | (with_reducible exact ih1 _ _ _ _)
      | (with_reducible exact ih2 _ _ _ _ _ _)
      | (with_reducible exact ih3 _ _ _)
      | (with_reducible exact ih4 _ _ _)
      | (with_reducible exact cover_Cells.mono _ _ _ _)
      | (with_reducible exact cover_Least.mono _ _ _)
      | (with_reducible exact pantilelaw33_awake.mono _)
      | (with_reducible exact pantileref01_Cut.mono _ _ _)
      | (with_reducible exact pantileref01_Part.mono _ _ _)
      | (with_reducible exact pantileref01_Same.mono _ _ _)
      | (with_reducible exact pantileref03_Empty.mono _ _ _)
      | (with_reducible exact pantileref33_Cells.mono _ _ _ _ _ _)
      | (with_reducible exact LeO.refl _)
      | (with_reducible exact LeO.none _)
      | (with_reducible refine LeO.ite ?_ ?_)
      | (with_reducible refine LeO.bind ?_ (fun _ => ?_))
      | exact ih0 _ _ _ _
      | exact ih1 _ _ _ _
      | exact ih2 _ _ _ _ _ _
      | exact ih3 _ _ _
      | exact ih4 _ _ _
      | exact cover_Cells.mono _ _ _ _
      | exact cover_Least.mono _ _ _
      | exact pantilelaw33_awake.mono _
      | exact pantileref01_Cut.mono _ _ _
      | exact pantileref01_Part.mono _ _ _
      | exact pantileref01_Same.mono _ _ _
      | exact pantileref03_Empty.mono _ _ _
      | exact pantileref33_Cells.mono _ _ _ _ _ _
      | exact LeO.none _
      | refine LeO.ite ?_ ?_
      | refine LeO.bind ?_ (fun _ => ?_)
def pantilelaw33_CoverCells.T14 : Bool × List (List Nat × List Nat) := (true, [([], []), ([0], [0]), ([1], [1]), ([2], [2]), ([3, 2], [2, 3]), ([2], [2]), ([4, 5, 2], [2, 4, 5]), ([2, 6], [2, 6]), ([7, 2], [7]), ([8], [8]), ([9, 8], [8, 9]), ([8], [8]), ([11, 8], [8, 11]), ([8], [8]), ([12, 13, 8, 8], [8, 12, 13]), ([10, 14, 14, 8], [8, 10, 14]), ([15, 8], [8, 15]), ([8, 16], [8, 16])])
def pantilelaw33_CoverCells.B14 : List Nat := [0, 1, 3, 7, 15, 7, 63, 127, 255, 511, 1023, 511, 2559, 511, 14847, 32767, 65535, 131071]
theorem pantilelaw33_CoverCells.tab14 : rtab .any (opsOf Try.f14 14) = pantilelaw33_CoverCells.T14 := by kernel_rfl
theorem pantilelaw33_CoverCells.bits14 : waitsOk pantilelaw33_CoverCells.T14.2 pantilelaw33_CoverCells.B14 = true := by kernel_rfl
def pantilelaw33_CoverCells.T16 : Bool × List (List Nat × List Nat) := (true, [([], []), ([0], [0]), ([1], [1]), ([2, 2], [2]), ([3], [3]), ([], []), ([], []), ([6], [6]), ([4, 5, 7], [4, 5, 7]), ([8, 8, 0, 1, 2, 3, 4, 5, 6, 7, 8], [8])])
def pantilelaw33_CoverCells.B16 : List Nat := [0, 1, 3, 7, 15, 0, 0, 64, 255, 511]
theorem pantilelaw33_CoverCells.tab16 : rtab .any (opsOf Try.f14 16) = pantilelaw33_CoverCells.T16 := by kernel_rfl
theorem pantilelaw33_CoverCells.bits16 : waitsOk pantilelaw33_CoverCells.T16.2 pantilelaw33_CoverCells.B16 = true := by kernel_rfl
def pantilelaw33_CoverCells.T24 : Bool × List (List Nat × List Nat) := (true, [([], []), ([], []), ([0, 1], [0, 1]), ([2], [2]), ([3], [3]), ([], []), ([], []), ([5, 6], [5, 6]), ([7], [7]), ([8], [8]), ([4, 9], [4, 9]), ([10], [10]), ([11], [11]), ([11], [11]), ([12, 13, 11], [11, 12, 13]), ([14, 11], [11, 14]), ([15, 11], [11, 15]), ([11], [11]), ([11], [11]), ([17, 18, 11], [11, 17, 18]), ([19, 11], [11, 19]), ([20, 11], [11, 20]), ([16, 21, 11, 11], [11, 16, 21]), ([22, 11], [11, 22]), ([11, 23], [11, 23])])
def pantilelaw33_CoverCells.B24 : List Nat := [0, 0, 3, 7, 15, 0, 0, 96, 224, 480, 1023, 2047, 4095, 4095, 16383, 32767, 65535, 4095, 4095, 397311, 921599, 1970175, 4194303, 8388607, 16777215]
theorem pantilelaw33_CoverCells.tab24 : rtab .any (opsOf Try.f14 24) = pantilelaw33_CoverCells.T24 := by kernel_rfl
theorem pantilelaw33_CoverCells.bits24 : waitsOk pantilelaw33_CoverCells.T24.2 pantilelaw33_CoverCells.B24 = true := by kernel_rfl
set_option maxHeartbeats 8000000 in
set_option maxRecDepth 100000 in
theorem pantilelaw33_CoverCells.calls (k : Nat) (A0_0 : Option Addr) (c0_0 : Nat) (l0_0 : List Int) (A0_1 : Option Addr) (c0_1 : Nat) (l0_1 : List Int) (a1 : Int) (r : Bool) (w : World) (hr0_0 : Kd.C (Kd.int .u64) w A0_0 l0_0.length l0_0) (hc0_0 : l0_0.length ≤ c0_0) (hr0_1 : Kd.C (Kd.int .u64) w A0_1 l0_1.length l0_1) (hc0_1 : l0_1.length ≤ c0_1) (hrt : r = true) (h : pantilelaw33_CoverCells.f k l0_0 l0_1 a1 = some r) :
  Calls Try.prog 14 #[.agg #[.slice A0_0 l0_0.length c0_0, .slice A0_1 l0_1.length c0_1], .int .i64 a1] w fun e w' => e = .returned (.bool r) ∧ Below w.heap.size w w' := by
 have hu32 := Try.underlying32
 have hu89 := Try.underlying89
 have hu94 := Try.underlying94
 have HRT := Aside0.mk hrt
 clear hrt
 have HR0_0 := Aside0.mk hr0_0
 have HC0_0 := Aside0.mk hc0_0
 clear hr0_0 hc0_0
 have HR0_1 := Aside0.mk hr0_1
 have HC0_1 := Aside0.mk hc0_1
 clear hr0_1 hc0_1
 have HB := Aside0.mk (Below.refl w.heap.size w)
 have H : ((pantilelaw33_awake.f k).bind fun t292 => (if t292 = true then (if (l0_0.length : Int) > 40 then (pantilelaw33_CoverCells.j0 k a1 true l0_0 l0_1) else (if (l0_1.length : Int) > 40 then (pantilelaw33_CoverCells.j0 k a1 true l0_0 l0_1) else (pantilelaw33_CoverCells.j0 k a1 (decide (a1 > 60)) l0_0 l0_1))) else (some false))) = some r := h
 clear h
 replace H := Option.bind_eq_some_iff.mp H
 obtain ⟨t292, A30, H⟩ := H
 replace H : (if t292 = true then (if (l0_0.length : Int) > 40 then (pantilelaw33_CoverCells.j0 k a1 true l0_0 l0_1) else (if (l0_1.length : Int) > 40 then (pantilelaw33_CoverCells.j0 k a1 true l0_0 l0_1) else (pantilelaw33_CoverCells.j0 k a1 (decide (a1 > 60)) l0_0 l0_1))) else (some false)) = some r := H
 have A3 := Aside0.mk A30
 clear A30
 by_cases c4 : t292 = true
 ·subst c4
  have H1 : (if (l0_0.length : Int) > 40 then (pantilelaw33_CoverCells.j0 k a1 true l0_0 l0_1) else (if (l0_1.length : Int) > 40 then (pantilelaw33_CoverCells.j0 k a1 true l0_0 l0_1) else (pantilelaw33_CoverCells.j0 k a1 (decide (a1 > 60)) l0_0 l0_1))) = some r := by rw [if_pos rfl] at H; exact H
  clear H
  have H := H1
  clear H1
  have HC5 := Aside0.mk H
  clear H
  go_enter Try.func14, Try.ntmps14
  go_upto_region 3 with (first | ((with_reducible refine gate_dst (N := 2) rfl ?_); (try (refine gate_guard (by rfl) ?_; dsimp only)); refine box_event ?hg (N := 2) ?hd (cs := #[.slice A0_0 l0_0.length c0_0, .slice A0_1 l0_1.length c0_1]) (t := 32) ?hr ?_; (case hd => rfl); (case hg => rfl); (case hr => first | (go_simp; done) | (go_simp; rfl)); intro gb291 hg w6 hbox hb; have n0_ := Aside0.mk (below_step (by repeat (first | (with_reducible first | exact HB.out | apply below_alloc | apply pw_below_drewN | apply below_drew1) | exact HB.out)) hb); have n1_ := Aside0.mk (hbox); have n2_ := Aside0.mk ((by rw [hg]; exact (below_size (by repeat (first | (with_reducible first | exact HB.out | apply below_alloc | apply pw_below_drewN | apply below_drew1) | exact HB.out))) : w.heap.size ≤ gb291)); have n3_ := Aside0.mk ((by rw [hg]; exact (below_size (by repeat (first | (with_reducible first | exact HB.out | apply below_alloc | apply pw_below_drewN | apply below_drew1) | exact HB.out))) : w.heap.size ≤ gb291)); clear HB; have HB := n0_; have BK291 := n1_; have GW291 := n2_; have GE291 := n3_; clear n0_ n1_ n2_ n3_; clear hb hbox hg) | ((with_reducible refine gate_callee (f := 66) rfl ?_); refine goesL_ (some 12) rfl rfl Try.func66 (by kernel_rfl) rfl #[] rfl (by (try simp only [List.map_toArray, List.map_cons, List.map_nil]); first | done | rfl | (simp only [List.length_drop, List.length_take]; rfl)) ?_; (with_reducible refine (pantilelaw33_awake.calls k  true _ A3.out).mono ?_); rintro e w7 ⟨rfl, hb⟩; refine ⟨_, rfl, ?_⟩; have n0_ := Aside0.mk (blk_below (g := gb291) (o := .cells #[.slice A0_0 l0_0.length c0_0, .slice A0_1 l0_1.length c0_1] 32 (0, 0)) (by (with_reducible repeat (first | refine blk_drewN ?_ _ | refine blk_drew ?_ | refine blk_alloc ?_ _)); exact BK291.out) hb); have n1_ := Aside0.mk (below_step (by repeat (first | (with_reducible first | exact HB.out | apply below_alloc | apply pw_below_drewN | apply below_drew1 | refine below_set ?_ GE291.out) | exact HB.out)) hb); clear BK291; clear HB; have BK291 := n0_; have HB := n1_; clear n0_ n1_; (try clear hb); (try clear hb2); (try clear hk); (try clear hi)))
  (try simp only [Act.put, lsA, ls0, ls1])
  go_cut [27] (fun v27 wc => ∃ (kq : Nat) (x27_4 : Bool), v27 = .bool x27_4 ∧ Aside0 (pantilelaw33_CoverCells.j0 kq a1 x27_4 l0_0 l0_1 = some r) ∧ Aside0 (kq ≤ k) ∧ Aside0 (wc.heap[gb291]? = some (.cells #[(.slice A0_0 l0_0.length c0_0), (.slice A0_1 l0_1.length c0_1)] 32 (0, 0))) ∧ Aside0 (Below w.heap.size w wc))
  case first =>
   have H := HC5.out
   clear HC5
   by_cases c8 : (l0_0.length : Int) > 40
   ·rw [if_pos c8] at H
    have c8b0 : decide (40 < (l0_0.length : Int)) = true := decide_eq_true c8
    have c8b1 : decide (40 < l0_0.length) = true := decide_eq_true (by omega)
    clear c8
    (first | rw [c8b0] | (simp only [i64_w, i32_w]; rw [c8b0]) | skip)
    have H' := Aside0.mk H
    clear H
    have hcz9_0 : w7.cell? ⟨gb291, 0, none⟩ = some (.slice A0_0 l0_0.length c0_0) := (blk_cell BK291.out 0).trans rfl
    have hcz9_1 : w7.cell? ⟨gb291, 1, none⟩ = some (.slice A0_1 l0_1.length c0_1) := (blk_cell BK291.out 1).trans rfl
    have hfz9_0 := blk_frozen BK291.out 0
    have hfz9_1 := blk_frozen BK291.out 1
    go_wp2
    go_meet
    case rel => exact ⟨_, (true), (by first | rfl | (simp; done) | (simp [*]; done)), H', ⟨by first | omega | exact Nat.le_refl _⟩, ⟨by (with_reducible repeat (first | refine blk_drewN ?_ _ | refine blk_drew ?_ | refine blk_alloc ?_ _)); exact BK291.out⟩, ⟨by repeat (first | (with_reducible first | exact HB.out | apply below_alloc | apply pw_below_drewN | apply below_drew1 | refine below_set ?_ GE291.out) | exact HB.out)⟩⟩
   ·rw [if_neg c8] at H
    have c8b0 : decide (40 < (l0_0.length : Int)) = false := decide_eq_false c8
    have c8b1 : decide (40 < l0_0.length) = false := decide_eq_false (by omega)
    clear c8
    (first | rw [c8b0] | (simp only [i64_w, i32_w]; rw [c8b0]) | skip)
    by_cases c10 : (l0_1.length : Int) > 40
    ·rw [if_pos c10] at H
     have c10b0 : decide (40 < (l0_1.length : Int)) = true := decide_eq_true c10
     have c10b1 : decide (40 < l0_1.length) = true := decide_eq_true (by omega)
     clear c10
     have H' := Aside0.mk H
     clear H
     have hcz11_0 : w7.cell? ⟨gb291, 0, none⟩ = some (.slice A0_0 l0_0.length c0_0) := (blk_cell BK291.out 0).trans rfl
     have hcz11_1 : w7.cell? ⟨gb291, 1, none⟩ = some (.slice A0_1 l0_1.length c0_1) := (blk_cell BK291.out 1).trans rfl
     have hfz11_0 := blk_frozen BK291.out 0
     have hfz11_1 := blk_frozen BK291.out 1
     go_wp2
     go_meet
     case rel => exact ⟨_, (true), (by first | rfl | (simp; done) | (simp [*]; done)), H', ⟨by first | omega | exact Nat.le_refl _⟩, ⟨by (with_reducible repeat (first | refine blk_drewN ?_ _ | refine blk_drew ?_ | refine blk_alloc ?_ _)); exact BK291.out⟩, ⟨by repeat (first | (with_reducible first | exact HB.out | apply below_alloc | apply pw_below_drewN | apply below_drew1 | refine below_set ?_ GE291.out) | exact HB.out)⟩⟩
    ·rw [if_neg c10] at H
     have c10b0 : decide (40 < (l0_1.length : Int)) = false := decide_eq_false c10
     have c10b1 : decide (40 < l0_1.length) = false := decide_eq_false (by omega)
     clear c10
     have H' := Aside0.mk H
     clear H
     have hcz12_0 : w7.cell? ⟨gb291, 0, none⟩ = some (.slice A0_0 l0_0.length c0_0) := (blk_cell BK291.out 0).trans rfl
     have hcz12_1 : w7.cell? ⟨gb291, 1, none⟩ = some (.slice A0_1 l0_1.length c0_1) := (blk_cell BK291.out 1).trans rfl
     have hfz12_0 := blk_frozen BK291.out 0
     have hfz12_1 := blk_frozen BK291.out 1
     go_wp2
     go_meet
     case rel => exact ⟨_, (decide (a1 > 60)), (by first | rfl | (simp; done) | (simp [*]; done)), H', ⟨by first | omega | exact Nat.le_refl _⟩, ⟨by (with_reducible repeat (first | refine blk_drewN ?_ _ | refine blk_drew ?_ | refine blk_alloc ?_ _)); exact BK291.out⟩, ⟨by repeat (first | (with_reducible first | exact HB.out | apply below_alloc | apply pw_below_drewN | apply below_drew1 | refine below_set ?_ GE291.out) | exact HB.out)⟩⟩
  case rest =>
   clear HC5
   try clear c1; try clear p2; try clear c4; try clear c6; try clear c8; try clear c8b0; try clear c8b1; try clear c10; try clear c10b0; try clear c10b1; try clear hcz11_0; try clear hcz11_1; try clear hcz12_0; try clear hcz12_1; try clear hcz9_0; try clear hcz9_1; try clear hfz11_0; try clear hfz11_1; try clear hfz12_0; try clear hfz12_1; try clear hfz9_0; try clear hfz9_1
   obtain ⟨kq, x27_4, rfl, HA, HJ4, BK291, HB⟩ := hcut
   cases kq with
   | zero => exact absurd HA.out (by simp [pantilelaw33_CoverCells.j0])
   | succ kj4 =>
    have H := HA.out
    clear HA
    simp only [pantilelaw33_CoverCells.j0] at H
    by_cases c13 : x27_4 = true
    ·subst c13
     have H1 : (some true) = some r := by rw [if_pos rfl] at H; exact H
     clear H
     have H := H1
     clear H1
     obtain rfl := Option.some.inj H
     go_wp2
     go_ret
     exact ⟨by first | rfl | (simp [errW_none, errW_some] <;> rfl) | (simp [*, errW_none, errW_some] <;> rfl), by repeat (first | (with_reducible first | exact HB.out | apply below_alloc | apply pw_below_drewN | apply below_drew1 | refine below_set ?_ GE291.out) | exact HB.out)⟩
    ·replace c13 := Bool.eq_false_iff.mpr c13
     subst c13
     have H1 : ((pantileref03_Right.f l0_0 l0_1).bind fun t293 => (if t293 = true then (pantilelaw33_CoverCells.j1 kj4 a1 (decide ((l0_0.length : Int) > 3)) l0_0 l0_1) else (pantilelaw33_CoverCells.j1 kj4 a1 false l0_0 l0_1))) = some r := by rw [if_neg (show ¬ (false = true) by decide)] at H; exact H
     clear H
     have H := H1
     clear H1
     have HC14 := Aside0.mk H
     clear H
     go_upto_region 5 with (fail)
     go_cut [35] (fun v35 wc => ∃ (kq : Nat) (x35_13 : Bool), v35 = .bool x35_13 ∧ Aside0 (pantilelaw33_CoverCells.j1 kq a1 x35_13 l0_0 l0_1 = some r) ∧ Aside0 (kq ≤ kj4) ∧ Aside0 (wc.heap[gb291]? = some (.cells #[(.slice A0_0 l0_0.length c0_0), (.slice A0_1 l0_1.length c0_1)] 32 (0, 0))) ∧ Aside0 (Below w.heap.size w wc))
     case first =>
      have H := HC14.out
      clear HC14
      replace H := Option.bind_eq_some_iff.mp H
      obtain ⟨t293, A150, H⟩ := H
      replace H : (if t293 = true then (pantilelaw33_CoverCells.j1 kj4 a1 (decide ((l0_0.length : Int) > 3)) l0_0 l0_1) else (pantilelaw33_CoverCells.j1 kj4 a1 false l0_0 l0_1)) = some r := H
      have A15 := Aside0.mk A150
      clear A150
      by_cases c16 : t293 = true
      ·subst c16
       have H1 : (pantilelaw33_CoverCells.j1 kj4 a1 (decide ((l0_0.length : Int) > 3)) l0_0 l0_1) = some r := by rw [if_pos rfl] at H; exact H
       clear H
       have H := H1
       clear H1
       have H' := Aside0.mk H
       clear H
       have hcz17_0 : wc.cell? ⟨gb291, 0, none⟩ = some (.slice A0_0 l0_0.length c0_0) := (blk_cell BK291.out 0).trans rfl
       have hcz17_1 : wc.cell? ⟨gb291, 1, none⟩ = some (.slice A0_1 l0_1.length c0_1) := (blk_cell BK291.out 1).trans rfl
       have hfz17_0 := blk_frozen BK291.out 0
       have hfz17_1 := blk_frozen BK291.out 1
       go_wp2_with (first | ((with_reducible refine gate_callee (f := 36) rfl ?_); refine goesL_ (some 29) rfl rfl Try.func36 (by kernel_rfl) rfl #[.agg #[.slice A0_0 l0_0.length c0_0, .slice A0_1 l0_1.length c0_1]] rfl (by (try simp only [List.map_toArray, List.map_cons, List.map_nil]); first | done | rfl | (simp only [List.length_drop, List.length_take]; rfl)) ?_; (with_reducible refine (pantileref03_Right.calls _ _ l0_0 _ _ l0_1 true _ ?side1 ?side2 ?side3 ?side4 A15.out).mono ?_); (case side1 => repeat (first | exact (Kd.C_below HR0_0.out HB.out) | (with_reducible refine Kd.C_alloc ?_ _) | (with_reducible refine Kd.C_drewN ?_ _) | (with_reducible refine Kd.C_drew ?_))); (case side2 => exact HC0_0.out); (case side3 => repeat (first | exact (Kd.C_below HR0_1.out HB.out) | (with_reducible refine Kd.C_alloc ?_ _) | (with_reducible refine Kd.C_drewN ?_ _) | (with_reducible refine Kd.C_drew ?_))); (case side4 => exact HC0_1.out); rintro e w18 ⟨rfl, hb⟩; refine ⟨_, rfl, ?_⟩; have n0_ := Aside0.mk (blk_below (g := gb291) (o := .cells #[.slice A0_0 l0_0.length c0_0, .slice A0_1 l0_1.length c0_1] 32 (0, 0)) (by (with_reducible repeat (first | refine blk_drewN ?_ _ | refine blk_drew ?_ | refine blk_alloc ?_ _)); exact BK291.out) hb); have n1_ := Aside0.mk (below_step (by repeat (first | (with_reducible first | exact HB.out | apply below_alloc | apply pw_below_drewN | apply below_drew1 | refine below_set ?_ GE291.out) | exact HB.out)) hb); clear BK291; clear HB; have BK291 := n0_; have HB := n1_; clear n0_ n1_; (try clear hb); (try clear hb2); (try clear hk); (try clear hi); have hcz19_0 : w18.cell? ⟨gb291, 0, none⟩ = some (.slice A0_0 l0_0.length c0_0) := (blk_cell BK291.out 0).trans rfl; have hcz19_1 : w18.cell? ⟨gb291, 1, none⟩ = some (.slice A0_1 l0_1.length c0_1) := (blk_cell BK291.out 1).trans rfl; have hfz19_0 := blk_frozen BK291.out 0; have hfz19_1 := blk_frozen BK291.out 1))
       go_meet
       case rel => exact ⟨_, (decide ((l0_0.length : Int) > 3)), (by first | rfl | (simp; done) | (simp [*]; done)), H', ⟨by have := HJ4.out; first | omega | exact Nat.le_refl _⟩, ⟨by (with_reducible repeat (first | refine blk_drewN ?_ _ | refine blk_drew ?_ | refine blk_alloc ?_ _)); exact BK291.out⟩, ⟨by repeat (first | (with_reducible first | exact HB.out | apply below_alloc | apply pw_below_drewN | apply below_drew1 | refine below_set ?_ GE291.out) | exact HB.out)⟩⟩
      ·replace c16 := Bool.eq_false_iff.mpr c16
       subst c16
       have H1 : (pantilelaw33_CoverCells.j1 kj4 a1 false l0_0 l0_1) = some r := by rw [if_neg (show ¬ (false = true) by decide)] at H; exact H
       clear H
       have H := H1
       clear H1
       have H' := Aside0.mk H
       clear H
       have hcz20_0 : wc.cell? ⟨gb291, 0, none⟩ = some (.slice A0_0 l0_0.length c0_0) := (blk_cell BK291.out 0).trans rfl
       have hcz20_1 : wc.cell? ⟨gb291, 1, none⟩ = some (.slice A0_1 l0_1.length c0_1) := (blk_cell BK291.out 1).trans rfl
       have hfz20_0 := blk_frozen BK291.out 0
       have hfz20_1 := blk_frozen BK291.out 1
       go_wp2_with (first | ((with_reducible refine gate_callee (f := 36) rfl ?_); refine goesL_ (some 29) rfl rfl Try.func36 (by kernel_rfl) rfl #[.agg #[.slice A0_0 l0_0.length c0_0, .slice A0_1 l0_1.length c0_1]] rfl (by (try simp only [List.map_toArray, List.map_cons, List.map_nil]); first | done | rfl | (simp only [List.length_drop, List.length_take]; rfl)) ?_; (with_reducible refine (pantileref03_Right.calls _ _ l0_0 _ _ l0_1 false _ ?side1 ?side2 ?side3 ?side4 A15.out).mono ?_); (case side1 => repeat (first | exact (Kd.C_below HR0_0.out HB.out) | (with_reducible refine Kd.C_alloc ?_ _) | (with_reducible refine Kd.C_drewN ?_ _) | (with_reducible refine Kd.C_drew ?_))); (case side2 => exact HC0_0.out); (case side3 => repeat (first | exact (Kd.C_below HR0_1.out HB.out) | (with_reducible refine Kd.C_alloc ?_ _) | (with_reducible refine Kd.C_drewN ?_ _) | (with_reducible refine Kd.C_drew ?_))); (case side4 => exact HC0_1.out); rintro e w21 ⟨rfl, hb⟩; refine ⟨_, rfl, ?_⟩; have n0_ := Aside0.mk (blk_below (g := gb291) (o := .cells #[.slice A0_0 l0_0.length c0_0, .slice A0_1 l0_1.length c0_1] 32 (0, 0)) (by (with_reducible repeat (first | refine blk_drewN ?_ _ | refine blk_drew ?_ | refine blk_alloc ?_ _)); exact BK291.out) hb); have n1_ := Aside0.mk (below_step (by repeat (first | (with_reducible first | exact HB.out | apply below_alloc | apply pw_below_drewN | apply below_drew1 | refine below_set ?_ GE291.out) | exact HB.out)) hb); clear BK291; clear HB; have BK291 := n0_; have HB := n1_; clear n0_ n1_; (try clear hb); (try clear hb2); (try clear hk); (try clear hi)))
       go_meet
       case rel => exact ⟨_, (false), (by first | rfl | (simp; done) | (simp [*]; done)), H', ⟨by have := HJ4.out; first | omega | exact Nat.le_refl _⟩, ⟨by (with_reducible repeat (first | refine blk_drewN ?_ _ | refine blk_drew ?_ | refine blk_alloc ?_ _)); exact BK291.out⟩, ⟨by repeat (first | (with_reducible first | exact HB.out | apply below_alloc | apply pw_below_drewN | apply below_drew1 | refine below_set ?_ GE291.out) | exact HB.out)⟩⟩
     case rest =>
      clear HC14
      try clear c1; try clear p2; try clear c3; try clear c4; try clear c6; try clear c8; try clear c8b0; try clear c8b1; try clear c10; try clear c10b0; try clear c10b1; try clear c13; try clear c14; try clear c16; try clear hcz11_0; try clear hcz11_1; try clear hcz12_0; try clear hcz12_1; try clear hcz17_0; try clear hcz17_1; try clear hcz19_0; try clear hcz19_1; try clear hcz20_0; try clear hcz20_1; try clear hcz9_0; try clear hcz9_1; try clear hfz11_0; try clear hfz11_1; try clear hfz12_0; try clear hfz12_1; try clear hfz17_0; try clear hfz17_1; try clear hfz19_0; try clear hfz19_1; try clear hfz20_0; try clear hfz20_1; try clear hfz9_0; try clear hfz9_1; try clear p2
      obtain ⟨kq, x35_13, rfl, HA, HJ13, BK291, HB⟩ := hcut
      cases kq with
      | zero => exact absurd HA.out (by simp [pantilelaw33_CoverCells.j1])
      | succ kj13 =>
       have H := HA.out
       clear HA
       simp only [pantilelaw33_CoverCells.j1] at H
       by_cases c22 : x35_13 = true
       ·subst c22
        have H1 : (some true) = some r := by rw [if_pos rfl] at H; exact H
        clear H
        have H := H1
        clear H1
        obtain rfl := Option.some.inj H
        go_wp2
        go_ret
        exact ⟨by first | rfl | (simp [errW_none, errW_some] <;> rfl) | (simp [*, errW_none, errW_some] <;> rfl), by repeat (first | (with_reducible first | exact HB.out | apply below_alloc | apply pw_below_drewN | apply below_drew1 | refine below_set ?_ GE291.out) | exact HB.out)⟩
       ·replace c22 := Bool.eq_false_iff.mpr c22
        subst c22
        have H1 : ((cover_Cells.f kj13 l0_0 l0_1 a1).bind fun bt294 => ((cover_Least.f kj13 l0_0 l0_1).bind fun bt298 => ((pantileref03_Right.f l0_0 l0_1).bind fun t304 => (if t304 = true then ((pantileref03_Empty.f kj13 l0_0 l0_1).bind fun t305 => (if t305 = true then (if (bt294.1.length : Int) = 0 then (if ((decide (a1 < 0)) == (bt294.2 == 11)) = true then (if ((decide (a1 < 0)) == (bt294.2 != 0)) = true then (if (bt298.1.length : Int) = 0 then (some (bt298.2.2 == 3)) else (some false)) else (some false)) else (some false)) else (some false)) else ((pantileref01_Part.f kj13 l0_0 l0_1).bind fun t306 => (if bt298.2.2 = 0 then (if bt298.2.1 = t306 then ((pantileref01_Cut.f kj13 l0_0 t306).bind fun t307 => ((pantileref01_Same.f kj13 bt298.1 t307).bind fun t310 => (pantilelaw33_CoverCells.j2 kj13 a1 bt294.1 bt294.2 (!t310) l0_0 l0_1))) else (pantilelaw33_CoverCells.j2 kj13 a1 bt294.1 bt294.2 true l0_0 l0_1)) else (pantilelaw33_CoverCells.j2 kj13 a1 bt294.1 bt294.2 true l0_0 l0_1))))) else (if (bt294.1.length : Int) = 0 then (if bt294.2 = 2 then (if (bt298.1.length : Int) = 0 then (some (bt298.2.2 == 2)) else (some false)) else (some false)) else (some false)))))) = some r := by rw [if_neg (show ¬ (false = true) by decide)] at H; exact H
        clear H
        have H := H1
        clear H1
        replace H := Option.bind_eq_some_iff.mp H
        obtain ⟨⟨t294, t297⟩, A230, H⟩ := H
        replace H : ((cover_Least.f kj13 l0_0 l0_1).bind fun bt298 => ((pantileref03_Right.f l0_0 l0_1).bind fun t304 => (if t304 = true then ((pantileref03_Empty.f kj13 l0_0 l0_1).bind fun t305 => (if t305 = true then (if (t294.length : Int) = 0 then (if ((decide (a1 < 0)) == (t297 == 11)) = true then (if ((decide (a1 < 0)) == (t297 != 0)) = true then (if (bt298.1.length : Int) = 0 then (some (bt298.2.2 == 3)) else (some false)) else (some false)) else (some false)) else (some false)) else ((pantileref01_Part.f kj13 l0_0 l0_1).bind fun t306 => (if bt298.2.2 = 0 then (if bt298.2.1 = t306 then ((pantileref01_Cut.f kj13 l0_0 t306).bind fun t307 => ((pantileref01_Same.f kj13 bt298.1 t307).bind fun t310 => (pantilelaw33_CoverCells.j2 kj13 a1 t294 t297 (!t310) l0_0 l0_1))) else (pantilelaw33_CoverCells.j2 kj13 a1 t294 t297 true l0_0 l0_1)) else (pantilelaw33_CoverCells.j2 kj13 a1 t294 t297 true l0_0 l0_1))))) else (if (t294.length : Int) = 0 then (if t297 = 2 then (if (bt298.1.length : Int) = 0 then (some (bt298.2.2 == 2)) else (some false)) else (some false)) else (some false))))) = some r := H
        have A23 := Aside0.mk A230
        clear A230
        replace H := Option.bind_eq_some_iff.mp H
        obtain ⟨⟨t298, t301, t302⟩, A240, H⟩ := H
        replace H : ((pantileref03_Right.f l0_0 l0_1).bind fun t304 => (if t304 = true then ((pantileref03_Empty.f kj13 l0_0 l0_1).bind fun t305 => (if t305 = true then (if (t294.length : Int) = 0 then (if ((decide (a1 < 0)) == (t297 == 11)) = true then (if ((decide (a1 < 0)) == (t297 != 0)) = true then (if (t298.length : Int) = 0 then (some (t302 == 3)) else (some false)) else (some false)) else (some false)) else (some false)) else ((pantileref01_Part.f kj13 l0_0 l0_1).bind fun t306 => (if t302 = 0 then (if t301 = t306 then ((pantileref01_Cut.f kj13 l0_0 t306).bind fun t307 => ((pantileref01_Same.f kj13 t298 t307).bind fun t310 => (pantilelaw33_CoverCells.j2 kj13 a1 t294 t297 (!t310) l0_0 l0_1))) else (pantilelaw33_CoverCells.j2 kj13 a1 t294 t297 true l0_0 l0_1)) else (pantilelaw33_CoverCells.j2 kj13 a1 t294 t297 true l0_0 l0_1))))) else (if (t294.length : Int) = 0 then (if t297 = 2 then (if (t298.length : Int) = 0 then (some (t302 == 2)) else (some false)) else (some false)) else (some false)))) = some r := H
        have A24 := Aside0.mk A240
        clear A240
        replace H := Option.bind_eq_some_iff.mp H
        obtain ⟨t304, A250, H⟩ := H
        replace H : (if t304 = true then ((pantileref03_Empty.f kj13 l0_0 l0_1).bind fun t305 => (if t305 = true then (if (t294.length : Int) = 0 then (if ((decide (a1 < 0)) == (t297 == 11)) = true then (if ((decide (a1 < 0)) == (t297 != 0)) = true then (if (t298.length : Int) = 0 then (some (t302 == 3)) else (some false)) else (some false)) else (some false)) else (some false)) else ((pantileref01_Part.f kj13 l0_0 l0_1).bind fun t306 => (if t302 = 0 then (if t301 = t306 then ((pantileref01_Cut.f kj13 l0_0 t306).bind fun t307 => ((pantileref01_Same.f kj13 t298 t307).bind fun t310 => (pantilelaw33_CoverCells.j2 kj13 a1 t294 t297 (!t310) l0_0 l0_1))) else (pantilelaw33_CoverCells.j2 kj13 a1 t294 t297 true l0_0 l0_1)) else (pantilelaw33_CoverCells.j2 kj13 a1 t294 t297 true l0_0 l0_1))))) else (if (t294.length : Int) = 0 then (if t297 = 2 then (if (t298.length : Int) = 0 then (some (t302 == 2)) else (some false)) else (some false)) else (some false))) = some r := H
        have A25 := Aside0.mk A250
        clear A250
        by_cases c26 : t304 = true
        ·subst c26
         have H1 : ((pantileref03_Empty.f kj13 l0_0 l0_1).bind fun t305 => (if t305 = true then (if (t294.length : Int) = 0 then (if ((decide (a1 < 0)) == (t297 == 11)) = true then (if ((decide (a1 < 0)) == (t297 != 0)) = true then (if (t298.length : Int) = 0 then (some (t302 == 3)) else (some false)) else (some false)) else (some false)) else (some false)) else ((pantileref01_Part.f kj13 l0_0 l0_1).bind fun t306 => (if t302 = 0 then (if t301 = t306 then ((pantileref01_Cut.f kj13 l0_0 t306).bind fun t307 => ((pantileref01_Same.f kj13 t298 t307).bind fun t310 => (pantilelaw33_CoverCells.j2 kj13 a1 t294 t297 (!t310) l0_0 l0_1))) else (pantilelaw33_CoverCells.j2 kj13 a1 t294 t297 true l0_0 l0_1)) else (pantilelaw33_CoverCells.j2 kj13 a1 t294 t297 true l0_0 l0_1))))) = some r := by rw [if_pos rfl] at H; exact H
         clear H
         have H := H1
         clear H1
         replace H := Option.bind_eq_some_iff.mp H
         obtain ⟨t305, A270, H⟩ := H
         replace H : (if t305 = true then (if (t294.length : Int) = 0 then (if ((decide (a1 < 0)) == (t297 == 11)) = true then (if ((decide (a1 < 0)) == (t297 != 0)) = true then (if (t298.length : Int) = 0 then (some (t302 == 3)) else (some false)) else (some false)) else (some false)) else (some false)) else ((pantileref01_Part.f kj13 l0_0 l0_1).bind fun t306 => (if t302 = 0 then (if t301 = t306 then ((pantileref01_Cut.f kj13 l0_0 t306).bind fun t307 => ((pantileref01_Same.f kj13 t298 t307).bind fun t310 => (pantilelaw33_CoverCells.j2 kj13 a1 t294 t297 (!t310) l0_0 l0_1))) else (pantilelaw33_CoverCells.j2 kj13 a1 t294 t297 true l0_0 l0_1)) else (pantilelaw33_CoverCells.j2 kj13 a1 t294 t297 true l0_0 l0_1)))) = some r := H
         have A27 := Aside0.mk A270
         clear A270
         by_cases c28 : t305 = true
         ·subst c28
          have H1 : (if (t294.length : Int) = 0 then (if ((decide (a1 < 0)) == (t297 == 11)) = true then (if ((decide (a1 < 0)) == (t297 != 0)) = true then (if (t298.length : Int) = 0 then (some (t302 == 3)) else (some false)) else (some false)) else (some false)) else (some false)) = some r := by rw [if_pos rfl] at H; exact H
          clear H
          have H := H1
          clear H1
          by_cases c29 : (t294.length : Int) = 0
          ·rw [if_pos c29] at H
           have c29b0 : ((t294.length : Int) == 0) = true := beq_iff_eq.mpr c29
           have c29b1 : ((t294.length : Int) != 0) = false := bne_eq_false_iff_eq.mpr c29
           clear c29
           by_cases c30 : ((decide (a1 < 0)) == (t297 == 11)) = true
           ·rw [if_pos c30] at H
            have c30b0 : ((decide (a1 < 0)) == (t297 == 11)) = true := c30
            (try (have c30b1 : decide ((decide (a1 < 0)) = (t297 == 11)) = true := by simpa using c30))
            (try (have c30b2 : ((decide (a1 < 0)) == (t297 == 11)) = true := by simpa using c30))
            clear c30
            by_cases c31 : ((decide (a1 < 0)) == (t297 != 0)) = true
            ·rw [if_pos c31] at H
             have c31b0 : ((decide (a1 < 0)) == (t297 != 0)) = true := c31
             (try (have c31b1 : decide ((decide (a1 < 0)) = (t297 != 0)) = true := by simpa using c31))
             (try (have c31b2 : ((decide (a1 < 0)) == (t297 != 0)) = true := by simpa using c31))
             clear c31
             by_cases c32 : (t298.length : Int) = 0
             ·rw [if_pos c32] at H
              have c32b0 : ((t298.length : Int) == 0) = true := beq_iff_eq.mpr c32
              have c32b1 : ((t298.length : Int) != 0) = false := bne_eq_false_iff_eq.mpr c32
              clear c32
              obtain rfl := Option.some.inj H
              have hcz33_0 : wc.cell? ⟨gb291, 0, none⟩ = some (.slice A0_0 l0_0.length c0_0) := (blk_cell BK291.out 0).trans rfl
              have hcz33_1 : wc.cell? ⟨gb291, 1, none⟩ = some (.slice A0_1 l0_1.length c0_1) := (blk_cell BK291.out 1).trans rfl
              have hfz33_0 := blk_frozen BK291.out 0
              have hfz33_1 := blk_frozen BK291.out 1
              go_wp2_with (first | ((with_reducible refine gate_callee (f := 67) rfl ?_); refine goesL_ (some 39) rfl rfl Try.func67 (by kernel_rfl) rfl #[.agg #[.slice A0_0 l0_0.length c0_0, .slice A0_1 l0_1.length c0_1], .int .i64 a1] rfl (by (try simp only [List.map_toArray, List.map_cons, List.map_nil]); first | done | rfl | (simp only [List.length_drop, List.length_take]; rfl)) ?_; (with_reducible refine (cover_Cells.calls kj13 _ _ l0_0 _ _ l0_1 a1 t294 t297 _ ?side1 ?side2 ?side3 ?side4 A23.out).mono ?_); (case side1 => repeat (first | exact (Kd.C_below HR0_0.out HB.out) | (with_reducible refine Kd.C_alloc ?_ _) | (with_reducible refine Kd.C_drewN ?_ _) | (with_reducible refine Kd.C_drew ?_))); (case side2 => exact HC0_0.out); (case side3 => repeat (first | exact (Kd.C_below HR0_1.out HB.out) | (with_reducible refine Kd.C_alloc ?_ _) | (with_reducible refine Kd.C_drewN ?_ _) | (with_reducible refine Kd.C_drew ?_))); (case side4 => exact HC0_1.out); rintro e w34 ⟨v295, rfl, ho0, hb⟩; refine ⟨_, rfl, ?_⟩; have n0_ := Aside0.mk (Kd.N_lower (Kd.N_mono (ok' := fun k_ => k_ ≠ gb291) ho0 (fun k_ hk_ => (Kd.freshB (g := gb291) (o := .cells #[.slice A0_0 l0_0.length c0_0, .slice A0_1 l0_1.length c0_1] 32 (0, 0)) (by (with_reducible repeat (first | refine blk_drewN ?_ _ | refine blk_drew ?_ | refine blk_alloc ?_ _)); exact BK291.out) k_ hk_))) (below_size (by repeat (first | (with_reducible first | exact HB.out | apply below_alloc | apply pw_below_drewN | apply below_drew1 | refine below_set ?_ GE291.out) | exact HB.out)))); have n1_ := Aside0.mk (blk_below (g := gb291) (o := .cells #[.slice A0_0 l0_0.length c0_0, .slice A0_1 l0_1.length c0_1] 32 (0, 0)) (by (with_reducible repeat (first | refine blk_drewN ?_ _ | refine blk_drew ?_ | refine blk_alloc ?_ _)); exact BK291.out) hb); have n2_ := Aside0.mk (below_step (by repeat (first | (with_reducible first | exact HB.out | apply below_alloc | apply pw_below_drewN | apply below_drew1 | refine below_set ?_ GE291.out) | exact HB.out)) hb); clear BK291; clear HB; have HO296 := n0_; have BK291 := n1_; have HB := n2_; clear n0_ n1_ n2_; (try clear hb); (try clear hb2); (try clear hk); (try clear hi); (try clear ho0); have hcz35_0 : w34.cell? ⟨gb291, 0, none⟩ = some (.slice A0_0 l0_0.length c0_0) := (blk_cell BK291.out 0).trans rfl; have hcz35_1 : w34.cell? ⟨gb291, 1, none⟩ = some (.slice A0_1 l0_1.length c0_1) := (blk_cell BK291.out 1).trans rfl; have hfz35_0 := blk_frozen BK291.out 0; have hfz35_1 := blk_frozen BK291.out 1) | ((with_reducible refine gate_callee (f := 68) rfl ?_); refine goesL_ (some 44) rfl rfl Try.func68 (by kernel_rfl) rfl #[.agg #[.slice A0_0 l0_0.length c0_0, .slice A0_1 l0_1.length c0_1]] rfl (by (try simp only [List.map_toArray, List.map_cons, List.map_nil]); first | done | rfl | (simp only [List.length_drop, List.length_take]; rfl)) ?_; (with_reducible refine (cover_Least.calls kj13 _ _ l0_0 _ _ l0_1 t298 t301 t302 _ ?side1 ?side2 ?side3 ?side4 A24.out).mono ?_); (case side1 => repeat (first | exact (Kd.C_below HR0_0.out HB.out) | (with_reducible refine Kd.C_alloc ?_ _) | (with_reducible refine Kd.C_drewN ?_ _) | (with_reducible refine Kd.C_drew ?_))); (case side2 => exact HC0_0.out); (case side3 => repeat (first | exact (Kd.C_below HR0_1.out HB.out) | (with_reducible refine Kd.C_alloc ?_ _) | (with_reducible refine Kd.C_drewN ?_ _) | (with_reducible refine Kd.C_drew ?_))); (case side4 => exact HC0_1.out); rintro e w36 ⟨v299, rfl, ho0, hb⟩; refine ⟨_, rfl, ?_⟩; have n0_ := Aside0.mk (Kd.N_elder' (by (with_reducible repeat (first | apply Kd.N_alloc | apply Kd.N_drewN | apply Kd.N_drew)); exact HO296.out) (Kd.R_base ho0) hb); have n1_ := Aside0.mk (Kd.R_lower ho0 (below_size (by repeat (first | (with_reducible first | exact HB.out | apply below_alloc | apply pw_below_drewN | apply below_drew1 | refine below_set ?_ GE291.out) | exact HB.out)))); have n2_ := Aside0.mk (blk_below (g := gb291) (o := .cells #[.slice A0_0 l0_0.length c0_0, .slice A0_1 l0_1.length c0_1] 32 (0, 0)) (by (with_reducible repeat (first | refine blk_drewN ?_ _ | refine blk_drew ?_ | refine blk_alloc ?_ _)); exact BK291.out) hb); have n3_ := Aside0.mk (below_step (by repeat (first | (with_reducible first | exact HB.out | apply below_alloc | apply pw_below_drewN | apply below_drew1 | refine below_set ?_ GE291.out) | exact HB.out)) hb); clear HO296; clear BK291; clear HB; have HO296 := n0_; have HO300 := n1_; have BK291 := n2_; have HB := n3_; clear n0_ n1_ n2_ n3_; (try clear hb); (try clear hb2); (try clear hk); (try clear hi); (try clear ho0)) | ((with_reducible refine gate_dst (N := 7) rfl ?_); (try (refine gate_guard (by rfl) ?_; dsimp only)); refine box_event ?hg (N := 7) ?hd (cs := #[.slice none 0 0, .int .i64 0]) (t := 89) ?hr ?_; (case hd => rfl); (case hg => rfl); (case hr => first | (go_simp; done) | (go_simp; rfl)); intro gb303 hg w37 hbox hb; have n0_ := Aside0.mk (Kd.N_below (Kd.N_elderB (by (with_reducible repeat (first | apply Kd.N_alloc | apply Kd.N_drewN | apply Kd.N_drew)); exact HO296.out) gb303 (Nat.le_of_eq hg.symm)) hb); have n1_ := Aside0.mk (Kd.R_below (by (with_reducible repeat (first | apply Kd.R_alloc | apply Kd.R_drewN | apply Kd.R_drew)); exact HO300.out) hb); have n2_ := Aside0.mk (blk_below (g := gb291) (o := .cells #[.slice A0_0 l0_0.length c0_0, .slice A0_1 l0_1.length c0_1] 32 (0, 0)) (by (with_reducible repeat (first | refine blk_drewN ?_ _ | refine blk_drew ?_ | refine blk_alloc ?_ _)); exact BK291.out) hb); have n3_ := Aside0.mk (below_step (by repeat (first | (with_reducible first | exact HB.out | apply below_alloc | apply pw_below_drewN | apply below_drew1 | refine below_set ?_ GE291.out) | exact HB.out)) hb); have n4_ := Aside0.mk (hbox); have n5_ := Aside0.mk ((by rw [hg]; exact (below_size (by repeat (first | (with_reducible first | exact HB.out | apply below_alloc | apply pw_below_drewN | apply below_drew1 | refine below_set ?_ GE291.out) | exact HB.out))) : w.heap.size ≤ gb303)); have n6_ := Aside0.mk ((by rw [hg]; exact (below_size (by repeat (first | (with_reducible first | exact HB.out | apply below_alloc | apply pw_below_drewN | apply below_drew1 | refine below_set ?_ GE291.out) | exact HB.out))) : w.heap.size ≤ gb303)); have n7_ := Aside0.mk ((by rw [hg]; exact Nat.ne_of_lt (blk_lt (g := gb291) (o := .cells #[.slice A0_0 l0_0.length c0_0, .slice A0_1 l0_1.length c0_1] 32 (0, 0)) (by (with_reducible repeat (first | refine blk_drewN ?_ _ | refine blk_drew ?_ | refine blk_alloc ?_ _)); exact BK291.out)) : gb291 ≠ gb303)); have n8_ := Aside0.mk ((by rw [hg]; exact Nat.ne_of_gt (blk_lt (g := gb291) (o := .cells #[.slice A0_0 l0_0.length c0_0, .slice A0_1 l0_1.length c0_1] 32 (0, 0)) (by (with_reducible repeat (first | refine blk_drewN ?_ _ | refine blk_drew ?_ | refine blk_alloc ?_ _)); exact BK291.out)) : gb303 ≠ gb291)); clear HO296; clear HO300; clear BK291; clear HB; have HO296 := n0_; have HO300 := n1_; have BK291 := n2_; have HB := n3_; have BK303 := n4_; have GW303 := n5_; have GE303 := n6_; have NB291_303 := n7_; have NB303_291 := n8_; clear n0_ n1_ n2_ n3_ n4_ n5_ n6_ n7_ n8_; clear hb hbox hg; obtain ⟨Ao38, co38, eo38⟩ := Kd.R_slice HO300.out; subst eo38; have hnb39 := NB303_291.out; have hnc39 := NB291_303.out; have hcz40_0 : w37.cell? ⟨gb303, 0, none⟩ = some (.slice none 0 0) := (blk_cell BK303.out 0).trans rfl; have hcz40_1 : w37.cell? ⟨gb303, 1, none⟩ = some (.int .i64 0) := (blk_cell BK303.out 1).trans rfl; have hfz40_0 := blk_frozen BK303.out 0; have hfz40_1 := blk_frozen BK303.out 1; have hcz41_0 : w37.cell? ⟨gb291, 0, none⟩ = some (.slice A0_0 l0_0.length c0_0) := (blk_cell BK291.out 0).trans rfl; have hcz41_1 : w37.cell? ⟨gb291, 1, none⟩ = some (.slice A0_1 l0_1.length c0_1) := (blk_cell BK291.out 1).trans rfl; have hfz41_0 := blk_frozen BK291.out 0; have hfz41_1 := blk_frozen BK291.out 1) | ((with_reducible refine gate_callee (f := 36) rfl ?_); refine goesL_ (some 48) rfl rfl Try.func36 (by kernel_rfl) rfl #[.agg #[.slice A0_0 l0_0.length c0_0, .slice A0_1 l0_1.length c0_1]] rfl (by (try simp only [List.map_toArray, List.map_cons, List.map_nil]); first | done | rfl | (simp only [List.length_drop, List.length_take]; rfl)) ?_; (with_reducible refine (pantileref03_Right.calls _ _ l0_0 _ _ l0_1 true _ ?side1 ?side2 ?side3 ?side4 A25.out).mono ?_); (case side1 => exact Kd.C_below HR0_0.out (by repeat (first | (with_reducible first | exact HB.out | apply below_alloc | apply pw_below_drewN | apply below_drew1 | refine below_set ?_ GE291.out | refine below_set ?_ GE303.out) | exact HB.out))); (case side2 => exact HC0_0.out); (case side3 => exact Kd.C_below HR0_1.out (by repeat (first | (with_reducible first | exact HB.out | apply below_alloc | apply pw_below_drewN | apply below_drew1 | refine below_set ?_ GE291.out | refine below_set ?_ GE303.out) | exact HB.out))); (case side4 => exact HC0_1.out); rintro e w42 ⟨rfl, hb⟩; refine ⟨_, rfl, ?_⟩; have n0_ := Aside0.mk (Kd.N_below (by (with_reducible repeat (first | apply Kd.N_alloc | apply Kd.N_drewN | apply Kd.N_drew)); exact (Kd.N_mono (Kd.N_far (p := ⟨gb303, 1, none⟩) (Kd.N_far (p := ⟨gb303, 0, none⟩) (Kd.N_mono HO296.out (fun k_ hk => (⟨hk, hk.2⟩ : _ ∧ k_ ≠ gb303))) (fun _ hk => hk.2) (.slice Ao38 t298.length co38)) (fun _ hk => hk.2) (.int .i64 t301)) (fun _ h_ => h_.1))) hb); have n1_ := Aside0.mk (Kd.R_below (by (with_reducible repeat (first | apply Kd.R_alloc | apply Kd.R_drewN | apply Kd.R_drew)); exact (Kd.R_mono (Kd.R_far (p := ⟨gb303, 1, none⟩) (Kd.R_far (p := ⟨gb303, 0, none⟩) (Kd.R_types HO300.out BK303.out (by decide)) (fun _ hk => hk.2) (.slice Ao38 t298.length co38)) (fun _ hk => hk.2) (.int .i64 t301)) (fun _ h_ => h_.1))) hb); have n2_ := Aside0.mk (blk_below (g := gb291) (o := .cells #[.slice A0_0 l0_0.length c0_0, .slice A0_1 l0_1.length c0_1] 32 (0, 0)) (by (with_reducible repeat (first | refine blk_drewN ?_ _ | refine blk_drew ?_ | refine blk_alloc ?_ _)); refine blk_far ?_ NB291_303.out _; (with_reducible repeat (first | refine blk_drewN ?_ _ | refine blk_drew ?_ | refine blk_alloc ?_ _)); refine blk_far ?_ NB291_303.out _; (with_reducible repeat (first | refine blk_drewN ?_ _ | refine blk_drew ?_ | refine blk_alloc ?_ _)); exact BK291.out) hb); have n3_ := Aside0.mk (blk_below (g := gb303) (o := .cells #[.slice Ao38 t298.length co38, .int .i64 t301] 89 (0, 0)) (by (with_reducible repeat (first | refine blk_drewN ?_ _ | refine blk_drew ?_ | refine blk_alloc ?_ _)); refine blk_put (cs := #[.slice Ao38 t298.length co38, .int .i64 0]) ?_ 1 _ rfl; (with_reducible repeat (first | refine blk_drewN ?_ _ | refine blk_drew ?_ | refine blk_alloc ?_ _)); refine blk_put (cs := #[.slice none 0 0, .int .i64 0]) ?_ 0 _ rfl; (with_reducible repeat (first | refine blk_drewN ?_ _ | refine blk_drew ?_ | refine blk_alloc ?_ _)); exact BK303.out) hb); have n4_ := Aside0.mk (below_step (by repeat (first | (with_reducible first | exact HB.out | apply below_alloc | apply pw_below_drewN | apply below_drew1 | refine below_set ?_ GE291.out | refine below_set ?_ GE303.out) | exact HB.out)) hb); clear HO296; clear HO300; clear BK291; clear BK303; clear HB; have HO296 := n0_; have HO300 := n1_; have BK291 := n2_; have BK303 := n3_; have HB := n4_; clear n0_ n1_ n2_ n3_ n4_; (try clear hb); (try clear hb2); (try clear hk); (try clear hi); have hcz43_0 : w42.cell? ⟨gb291, 0, none⟩ = some (.slice A0_0 l0_0.length c0_0) := (blk_cell BK291.out 0).trans rfl; have hcz43_1 : w42.cell? ⟨gb291, 1, none⟩ = some (.slice A0_1 l0_1.length c0_1) := (blk_cell BK291.out 1).trans rfl; have hfz43_0 := blk_frozen BK291.out 0; have hfz43_1 := blk_frozen BK291.out 1) | ((with_reducible refine gate_callee (f := 40) rfl ?_); refine goesL_ (some 68) rfl rfl Try.func40 (by kernel_rfl) rfl #[.agg #[.slice A0_0 l0_0.length c0_0, .slice A0_1 l0_1.length c0_1]] rfl (by (try simp only [List.map_toArray, List.map_cons, List.map_nil]); first | done | rfl | (simp only [List.length_drop, List.length_take]; rfl)) ?_; (with_reducible refine (pantileref03_Empty.calls kj13 _ _ l0_0 _ _ l0_1 true _ ?side1 ?side2 ?side3 ?side4 A27.out).mono ?_); (case side1 => repeat (first | exact (Kd.C_below HR0_0.out HB.out) | (with_reducible refine Kd.C_alloc ?_ _) | (with_reducible refine Kd.C_drewN ?_ _) | (with_reducible refine Kd.C_drew ?_))); (case side2 => exact HC0_0.out); (case side3 => repeat (first | exact (Kd.C_below HR0_1.out HB.out) | (with_reducible refine Kd.C_alloc ?_ _) | (with_reducible refine Kd.C_drewN ?_ _) | (with_reducible refine Kd.C_drew ?_))); (case side4 => exact HC0_1.out); rintro e w44 ⟨rfl, hb⟩; refine ⟨_, rfl, ?_⟩; have n0_ := Aside0.mk (Kd.N_below (by (with_reducible repeat (first | apply Kd.N_alloc | apply Kd.N_drewN | apply Kd.N_drew)); exact HO296.out) hb); have n1_ := Aside0.mk (Kd.R_below (by (with_reducible repeat (first | apply Kd.R_alloc | apply Kd.R_drewN | apply Kd.R_drew)); exact HO300.out) hb); have n2_ := Aside0.mk (blk_below (g := gb291) (o := .cells #[.slice A0_0 l0_0.length c0_0, .slice A0_1 l0_1.length c0_1] 32 (0, 0)) (by (with_reducible repeat (first | refine blk_drewN ?_ _ | refine blk_drew ?_ | refine blk_alloc ?_ _)); exact BK291.out) hb); have n3_ := Aside0.mk (blk_below (g := gb303) (o := .cells #[.slice Ao38 t298.length co38, .int .i64 t301] 89 (0, 0)) (by (with_reducible repeat (first | refine blk_drewN ?_ _ | refine blk_drew ?_ | refine blk_alloc ?_ _)); exact BK303.out) hb); have n4_ := Aside0.mk (below_step (by repeat (first | (with_reducible first | exact HB.out | apply below_alloc | apply pw_below_drewN | apply below_drew1 | refine below_set ?_ GE291.out | refine below_set ?_ GE303.out) | exact HB.out)) hb); clear HO296; clear HO300; clear BK291; clear BK303; clear HB; have HO296 := n0_; have HO300 := n1_; have BK291 := n2_; have BK303 := n3_; have HB := n4_; clear n0_ n1_ n2_ n3_ n4_; (try clear hb); (try clear hb2); (try clear hk); (try clear hi); obtain ⟨Ao45, co45, eo45⟩ := Kd.N_slice HO296.out; subst eo45; have hcz46_0 : w44.cell? ⟨gb303, 0, none⟩ = some (.slice Ao38 t298.length co38) := (blk_cell BK303.out 0).trans rfl; have hcz46_1 : w44.cell? ⟨gb303, 1, none⟩ = some (.int .i64 t301) := (blk_cell BK303.out 1).trans rfl; have hfz46_0 := blk_frozen BK303.out 0; have hfz46_1 := blk_frozen BK303.out 1))
              go_ret
              exact ⟨by first | rfl | (simp [errW_none, errW_some] <;> rfl) | (simp [*, errW_none, errW_some] <;> rfl), by repeat (first | (with_reducible first | exact HB.out | apply below_alloc | apply pw_below_drewN | apply below_drew1 | refine below_set ?_ GE291.out | refine below_set ?_ GE303.out) | exact HB.out)⟩
             ·rw [if_neg c32] at H
              have c32b0 : ((t298.length : Int) == 0) = false := beq_eq_false_iff_ne.mpr c32
              have c32b1 : ((t298.length : Int) != 0) = true := bne_iff_ne.mpr c32
              have c32b2 : ¬ (t298 = []) := fun h_ => c32 (by rw [h_]; rfl)
              exact Bool.noConfusion ((Option.some.inj H).trans HRT.out)
            ·rw [if_neg c31] at H
             have c31b0 : ((decide (a1 < 0)) == (t297 != 0)) = false := by simpa using c31
             (try (have c31b1 : decide ((decide (a1 < 0)) = (t297 != 0)) = false := by simpa using c31))
             (try (have c31b2 : ((decide (a1 < 0)) == (t297 != 0)) = false := by simpa using c31))
             (try (have c31b3 : ¬ ((decide (a1 < 0)) = (t297 != 0)) := by simpa using c31))
             clear c31
             exact Bool.noConfusion ((Option.some.inj H).trans HRT.out)
           ·rw [if_neg c30] at H
            have c30b0 : ((decide (a1 < 0)) == (t297 == 11)) = false := by simpa using c30
            (try (have c30b1 : decide ((decide (a1 < 0)) = (t297 == 11)) = false := by simpa using c30))
            (try (have c30b2 : ((decide (a1 < 0)) == (t297 == 11)) = false := by simpa using c30))
            (try (have c30b3 : ¬ ((decide (a1 < 0)) = (t297 == 11)) := by simpa using c30))
            clear c30
            exact Bool.noConfusion ((Option.some.inj H).trans HRT.out)
          ·rw [if_neg c29] at H
           have c29b0 : ((t294.length : Int) == 0) = false := beq_eq_false_iff_ne.mpr c29
           have c29b1 : ((t294.length : Int) != 0) = true := bne_iff_ne.mpr c29
           have c29b2 : ¬ (t294 = []) := fun h_ => c29 (by rw [h_]; rfl)
           exact Bool.noConfusion ((Option.some.inj H).trans HRT.out)
         ·replace c28 := Bool.eq_false_iff.mpr c28
          subst c28
          have H1 : ((pantileref01_Part.f kj13 l0_0 l0_1).bind fun t306 => (if t302 = 0 then (if t301 = t306 then ((pantileref01_Cut.f kj13 l0_0 t306).bind fun t307 => ((pantileref01_Same.f kj13 t298 t307).bind fun t310 => (pantilelaw33_CoverCells.j2 kj13 a1 t294 t297 (!t310) l0_0 l0_1))) else (pantilelaw33_CoverCells.j2 kj13 a1 t294 t297 true l0_0 l0_1)) else (pantilelaw33_CoverCells.j2 kj13 a1 t294 t297 true l0_0 l0_1))) = some r := by rw [if_neg (show ¬ (false = true) by decide)] at H; exact H
          clear H
          have H := H1
          clear H1
          replace H := Option.bind_eq_some_iff.mp H
          obtain ⟨t306, A470, H⟩ := H
          replace H : (if t302 = 0 then (if t301 = t306 then ((pantileref01_Cut.f kj13 l0_0 t306).bind fun t307 => ((pantileref01_Same.f kj13 t298 t307).bind fun t310 => (pantilelaw33_CoverCells.j2 kj13 a1 t294 t297 (!t310) l0_0 l0_1))) else (pantilelaw33_CoverCells.j2 kj13 a1 t294 t297 true l0_0 l0_1)) else (pantilelaw33_CoverCells.j2 kj13 a1 t294 t297 true l0_0 l0_1)) = some r := H
          have A47 := Aside0.mk A470
          clear A470
          have HC48 := Aside0.mk H
          clear H
          have hcz49_0 : wc.cell? ⟨gb291, 0, none⟩ = some (.slice A0_0 l0_0.length c0_0) := (blk_cell BK291.out 0).trans rfl
          have hcz49_1 : wc.cell? ⟨gb291, 1, none⟩ = some (.slice A0_1 l0_1.length c0_1) := (blk_cell BK291.out 1).trans rfl
          have hfz49_0 := blk_frozen BK291.out 0
          have hfz49_1 := blk_frozen BK291.out 1
          go_upto_region 14 with (first | ((with_reducible refine gate_callee (f := 67) rfl ?_); refine goesL_ (some 39) rfl rfl Try.func67 (by kernel_rfl) rfl #[.agg #[.slice A0_0 l0_0.length c0_0, .slice A0_1 l0_1.length c0_1], .int .i64 a1] rfl (by (try simp only [List.map_toArray, List.map_cons, List.map_nil]); first | done | rfl | (simp only [List.length_drop, List.length_take]; rfl)) ?_; (with_reducible refine (cover_Cells.calls kj13 _ _ l0_0 _ _ l0_1 a1 t294 t297 _ ?side1 ?side2 ?side3 ?side4 A23.out).mono ?_); (case side1 => repeat (first | exact (Kd.C_below HR0_0.out HB.out) | (with_reducible refine Kd.C_alloc ?_ _) | (with_reducible refine Kd.C_drewN ?_ _) | (with_reducible refine Kd.C_drew ?_))); (case side2 => exact HC0_0.out); (case side3 => repeat (first | exact (Kd.C_below HR0_1.out HB.out) | (with_reducible refine Kd.C_alloc ?_ _) | (with_reducible refine Kd.C_drewN ?_ _) | (with_reducible refine Kd.C_drew ?_))); (case side4 => exact HC0_1.out); rintro e w50 ⟨v295, rfl, ho0, hb⟩; refine ⟨_, rfl, ?_⟩; have n0_ := Aside0.mk (Kd.N_lower (Kd.N_mono (ok' := fun k_ => k_ ≠ gb291) ho0 (fun k_ hk_ => (Kd.freshB (g := gb291) (o := .cells #[.slice A0_0 l0_0.length c0_0, .slice A0_1 l0_1.length c0_1] 32 (0, 0)) (by (with_reducible repeat (first | refine blk_drewN ?_ _ | refine blk_drew ?_ | refine blk_alloc ?_ _)); exact BK291.out) k_ hk_))) (below_size (by repeat (first | (with_reducible first | exact HB.out | apply below_alloc | apply pw_below_drewN | apply below_drew1 | refine below_set ?_ GE291.out) | exact HB.out)))); have n1_ := Aside0.mk (blk_below (g := gb291) (o := .cells #[.slice A0_0 l0_0.length c0_0, .slice A0_1 l0_1.length c0_1] 32 (0, 0)) (by (with_reducible repeat (first | refine blk_drewN ?_ _ | refine blk_drew ?_ | refine blk_alloc ?_ _)); exact BK291.out) hb); have n2_ := Aside0.mk (below_step (by repeat (first | (with_reducible first | exact HB.out | apply below_alloc | apply pw_below_drewN | apply below_drew1 | refine below_set ?_ GE291.out) | exact HB.out)) hb); clear BK291; clear HB; have HO296 := n0_; have BK291 := n1_; have HB := n2_; clear n0_ n1_ n2_; (try clear hb); (try clear hb2); (try clear hk); (try clear hi); (try clear ho0); have hcz51_0 : w50.cell? ⟨gb291, 0, none⟩ = some (.slice A0_0 l0_0.length c0_0) := (blk_cell BK291.out 0).trans rfl; have hcz51_1 : w50.cell? ⟨gb291, 1, none⟩ = some (.slice A0_1 l0_1.length c0_1) := (blk_cell BK291.out 1).trans rfl; have hfz51_0 := blk_frozen BK291.out 0; have hfz51_1 := blk_frozen BK291.out 1) | ((with_reducible refine gate_callee (f := 68) rfl ?_); refine goesL_ (some 44) rfl rfl Try.func68 (by kernel_rfl) rfl #[.agg #[.slice A0_0 l0_0.length c0_0, .slice A0_1 l0_1.length c0_1]] rfl (by (try simp only [List.map_toArray, List.map_cons, List.map_nil]); first | done | rfl | (simp only [List.length_drop, List.length_take]; rfl)) ?_; (with_reducible refine (cover_Least.calls kj13 _ _ l0_0 _ _ l0_1 t298 t301 t302 _ ?side1 ?side2 ?side3 ?side4 A24.out).mono ?_); (case side1 => repeat (first | exact (Kd.C_below HR0_0.out HB.out) | (with_reducible refine Kd.C_alloc ?_ _) | (with_reducible refine Kd.C_drewN ?_ _) | (with_reducible refine Kd.C_drew ?_))); (case side2 => exact HC0_0.out); (case side3 => repeat (first | exact (Kd.C_below HR0_1.out HB.out) | (with_reducible refine Kd.C_alloc ?_ _) | (with_reducible refine Kd.C_drewN ?_ _) | (with_reducible refine Kd.C_drew ?_))); (case side4 => exact HC0_1.out); rintro e w52 ⟨v299, rfl, ho0, hb⟩; refine ⟨_, rfl, ?_⟩; have n0_ := Aside0.mk (Kd.N_elder' (by (with_reducible repeat (first | apply Kd.N_alloc | apply Kd.N_drewN | apply Kd.N_drew)); exact HO296.out) (Kd.R_base ho0) hb); have n1_ := Aside0.mk (Kd.R_lower ho0 (below_size (by repeat (first | (with_reducible first | exact HB.out | apply below_alloc | apply pw_below_drewN | apply below_drew1 | refine below_set ?_ GE291.out) | exact HB.out)))); have n2_ := Aside0.mk (blk_below (g := gb291) (o := .cells #[.slice A0_0 l0_0.length c0_0, .slice A0_1 l0_1.length c0_1] 32 (0, 0)) (by (with_reducible repeat (first | refine blk_drewN ?_ _ | refine blk_drew ?_ | refine blk_alloc ?_ _)); exact BK291.out) hb); have n3_ := Aside0.mk (below_step (by repeat (first | (with_reducible first | exact HB.out | apply below_alloc | apply pw_below_drewN | apply below_drew1 | refine below_set ?_ GE291.out) | exact HB.out)) hb); clear HO296; clear BK291; clear HB; have HO296 := n0_; have HO300 := n1_; have BK291 := n2_; have HB := n3_; clear n0_ n1_ n2_ n3_; (try clear hb); (try clear hb2); (try clear hk); (try clear hi); (try clear ho0)) | ((with_reducible refine gate_dst (N := 7) rfl ?_); (try (refine gate_guard (by rfl) ?_; dsimp only)); refine box_event ?hg (N := 7) ?hd (cs := #[.slice none 0 0, .int .i64 0]) (t := 89) ?hr ?_; (case hd => rfl); (case hg => rfl); (case hr => first | (go_simp; done) | (go_simp; rfl)); intro gb303 hg w53 hbox hb; have n0_ := Aside0.mk (Kd.N_below (Kd.N_elderB (by (with_reducible repeat (first | apply Kd.N_alloc | apply Kd.N_drewN | apply Kd.N_drew)); exact HO296.out) gb303 (Nat.le_of_eq hg.symm)) hb); have n1_ := Aside0.mk (Kd.R_below (by (with_reducible repeat (first | apply Kd.R_alloc | apply Kd.R_drewN | apply Kd.R_drew)); exact HO300.out) hb); have n2_ := Aside0.mk (blk_below (g := gb291) (o := .cells #[.slice A0_0 l0_0.length c0_0, .slice A0_1 l0_1.length c0_1] 32 (0, 0)) (by (with_reducible repeat (first | refine blk_drewN ?_ _ | refine blk_drew ?_ | refine blk_alloc ?_ _)); exact BK291.out) hb); have n3_ := Aside0.mk (below_step (by repeat (first | (with_reducible first | exact HB.out | apply below_alloc | apply pw_below_drewN | apply below_drew1 | refine below_set ?_ GE291.out) | exact HB.out)) hb); have n4_ := Aside0.mk (hbox); have n5_ := Aside0.mk ((by rw [hg]; exact (below_size (by repeat (first | (with_reducible first | exact HB.out | apply below_alloc | apply pw_below_drewN | apply below_drew1 | refine below_set ?_ GE291.out) | exact HB.out))) : w.heap.size ≤ gb303)); have n6_ := Aside0.mk ((by rw [hg]; exact (below_size (by repeat (first | (with_reducible first | exact HB.out | apply below_alloc | apply pw_below_drewN | apply below_drew1 | refine below_set ?_ GE291.out) | exact HB.out))) : w.heap.size ≤ gb303)); have n7_ := Aside0.mk ((by rw [hg]; exact Nat.ne_of_lt (blk_lt (g := gb291) (o := .cells #[.slice A0_0 l0_0.length c0_0, .slice A0_1 l0_1.length c0_1] 32 (0, 0)) (by (with_reducible repeat (first | refine blk_drewN ?_ _ | refine blk_drew ?_ | refine blk_alloc ?_ _)); exact BK291.out)) : gb291 ≠ gb303)); have n8_ := Aside0.mk ((by rw [hg]; exact Nat.ne_of_gt (blk_lt (g := gb291) (o := .cells #[.slice A0_0 l0_0.length c0_0, .slice A0_1 l0_1.length c0_1] 32 (0, 0)) (by (with_reducible repeat (first | refine blk_drewN ?_ _ | refine blk_drew ?_ | refine blk_alloc ?_ _)); exact BK291.out)) : gb303 ≠ gb291)); clear HO296; clear HO300; clear BK291; clear HB; have HO296 := n0_; have HO300 := n1_; have BK291 := n2_; have HB := n3_; have BK303 := n4_; have GW303 := n5_; have GE303 := n6_; have NB291_303 := n7_; have NB303_291 := n8_; clear n0_ n1_ n2_ n3_ n4_ n5_ n6_ n7_ n8_; clear hb hbox hg; obtain ⟨Ao54, co54, eo54⟩ := Kd.R_slice HO300.out; subst eo54; have hnb55 := NB303_291.out; have hnc55 := NB291_303.out; have hcz56_0 : w53.cell? ⟨gb303, 0, none⟩ = some (.slice none 0 0) := (blk_cell BK303.out 0).trans rfl; have hcz56_1 : w53.cell? ⟨gb303, 1, none⟩ = some (.int .i64 0) := (blk_cell BK303.out 1).trans rfl; have hfz56_0 := blk_frozen BK303.out 0; have hfz56_1 := blk_frozen BK303.out 1; have hcz57_0 : w53.cell? ⟨gb291, 0, none⟩ = some (.slice A0_0 l0_0.length c0_0) := (blk_cell BK291.out 0).trans rfl; have hcz57_1 : w53.cell? ⟨gb291, 1, none⟩ = some (.slice A0_1 l0_1.length c0_1) := (blk_cell BK291.out 1).trans rfl; have hfz57_0 := blk_frozen BK291.out 0; have hfz57_1 := blk_frozen BK291.out 1) | ((with_reducible refine gate_callee (f := 36) rfl ?_); refine goesL_ (some 48) rfl rfl Try.func36 (by kernel_rfl) rfl #[.agg #[.slice A0_0 l0_0.length c0_0, .slice A0_1 l0_1.length c0_1]] rfl (by (try simp only [List.map_toArray, List.map_cons, List.map_nil]); first | done | rfl | (simp only [List.length_drop, List.length_take]; rfl)) ?_; (with_reducible refine (pantileref03_Right.calls _ _ l0_0 _ _ l0_1 true _ ?side1 ?side2 ?side3 ?side4 A25.out).mono ?_); (case side1 => exact Kd.C_below HR0_0.out (by repeat (first | (with_reducible first | exact HB.out | apply below_alloc | apply pw_below_drewN | apply below_drew1 | refine below_set ?_ GE291.out | refine below_set ?_ GE303.out) | exact HB.out))); (case side2 => exact HC0_0.out); (case side3 => exact Kd.C_below HR0_1.out (by repeat (first | (with_reducible first | exact HB.out | apply below_alloc | apply pw_below_drewN | apply below_drew1 | refine below_set ?_ GE291.out | refine below_set ?_ GE303.out) | exact HB.out))); (case side4 => exact HC0_1.out); rintro e w58 ⟨rfl, hb⟩; refine ⟨_, rfl, ?_⟩; have n0_ := Aside0.mk (Kd.N_below (by (with_reducible repeat (first | apply Kd.N_alloc | apply Kd.N_drewN | apply Kd.N_drew)); exact (Kd.N_mono (Kd.N_far (p := ⟨gb303, 1, none⟩) (Kd.N_far (p := ⟨gb303, 0, none⟩) (Kd.N_mono HO296.out (fun k_ hk => (⟨hk, hk.2⟩ : _ ∧ k_ ≠ gb303))) (fun _ hk => hk.2) (.slice Ao54 t298.length co54)) (fun _ hk => hk.2) (.int .i64 t301)) (fun _ h_ => h_.1))) hb); have n1_ := Aside0.mk (Kd.R_below (by (with_reducible repeat (first | apply Kd.R_alloc | apply Kd.R_drewN | apply Kd.R_drew)); exact (Kd.R_mono (Kd.R_far (p := ⟨gb303, 1, none⟩) (Kd.R_far (p := ⟨gb303, 0, none⟩) (Kd.R_types HO300.out BK303.out (by decide)) (fun _ hk => hk.2) (.slice Ao54 t298.length co54)) (fun _ hk => hk.2) (.int .i64 t301)) (fun _ h_ => h_.1))) hb); have n2_ := Aside0.mk (blk_below (g := gb291) (o := .cells #[.slice A0_0 l0_0.length c0_0, .slice A0_1 l0_1.length c0_1] 32 (0, 0)) (by (with_reducible repeat (first | refine blk_drewN ?_ _ | refine blk_drew ?_ | refine blk_alloc ?_ _)); refine blk_far ?_ NB291_303.out _; (with_reducible repeat (first | refine blk_drewN ?_ _ | refine blk_drew ?_ | refine blk_alloc ?_ _)); refine blk_far ?_ NB291_303.out _; (with_reducible repeat (first | refine blk_drewN ?_ _ | refine blk_drew ?_ | refine blk_alloc ?_ _)); exact BK291.out) hb); have n3_ := Aside0.mk (blk_below (g := gb303) (o := .cells #[.slice Ao54 t298.length co54, .int .i64 t301] 89 (0, 0)) (by (with_reducible repeat (first | refine blk_drewN ?_ _ | refine blk_drew ?_ | refine blk_alloc ?_ _)); refine blk_put (cs := #[.slice Ao54 t298.length co54, .int .i64 0]) ?_ 1 _ rfl; (with_reducible repeat (first | refine blk_drewN ?_ _ | refine blk_drew ?_ | refine blk_alloc ?_ _)); refine blk_put (cs := #[.slice none 0 0, .int .i64 0]) ?_ 0 _ rfl; (with_reducible repeat (first | refine blk_drewN ?_ _ | refine blk_drew ?_ | refine blk_alloc ?_ _)); exact BK303.out) hb); have n4_ := Aside0.mk (below_step (by repeat (first | (with_reducible first | exact HB.out | apply below_alloc | apply pw_below_drewN | apply below_drew1 | refine below_set ?_ GE291.out | refine below_set ?_ GE303.out) | exact HB.out)) hb); clear HO296; clear HO300; clear BK291; clear BK303; clear HB; have HO296 := n0_; have HO300 := n1_; have BK291 := n2_; have BK303 := n3_; have HB := n4_; clear n0_ n1_ n2_ n3_ n4_; (try clear hb); (try clear hb2); (try clear hk); (try clear hi); have hcz59_0 : w58.cell? ⟨gb291, 0, none⟩ = some (.slice A0_0 l0_0.length c0_0) := (blk_cell BK291.out 0).trans rfl; have hcz59_1 : w58.cell? ⟨gb291, 1, none⟩ = some (.slice A0_1 l0_1.length c0_1) := (blk_cell BK291.out 1).trans rfl; have hfz59_0 := blk_frozen BK291.out 0; have hfz59_1 := blk_frozen BK291.out 1) | ((with_reducible refine gate_callee (f := 40) rfl ?_); refine goesL_ (some 68) rfl rfl Try.func40 (by kernel_rfl) rfl #[.agg #[.slice A0_0 l0_0.length c0_0, .slice A0_1 l0_1.length c0_1]] rfl (by (try simp only [List.map_toArray, List.map_cons, List.map_nil]); first | done | rfl | (simp only [List.length_drop, List.length_take]; rfl)) ?_; (with_reducible refine (pantileref03_Empty.calls kj13 _ _ l0_0 _ _ l0_1 false _ ?side1 ?side2 ?side3 ?side4 A27.out).mono ?_); (case side1 => repeat (first | exact (Kd.C_below HR0_0.out HB.out) | (with_reducible refine Kd.C_alloc ?_ _) | (with_reducible refine Kd.C_drewN ?_ _) | (with_reducible refine Kd.C_drew ?_))); (case side2 => exact HC0_0.out); (case side3 => repeat (first | exact (Kd.C_below HR0_1.out HB.out) | (with_reducible refine Kd.C_alloc ?_ _) | (with_reducible refine Kd.C_drewN ?_ _) | (with_reducible refine Kd.C_drew ?_))); (case side4 => exact HC0_1.out); rintro e w60 ⟨rfl, hb⟩; refine ⟨_, rfl, ?_⟩; have n0_ := Aside0.mk (Kd.N_below (by (with_reducible repeat (first | apply Kd.N_alloc | apply Kd.N_drewN | apply Kd.N_drew)); exact HO296.out) hb); have n1_ := Aside0.mk (Kd.R_below (by (with_reducible repeat (first | apply Kd.R_alloc | apply Kd.R_drewN | apply Kd.R_drew)); exact HO300.out) hb); have n2_ := Aside0.mk (blk_below (g := gb291) (o := .cells #[.slice A0_0 l0_0.length c0_0, .slice A0_1 l0_1.length c0_1] 32 (0, 0)) (by (with_reducible repeat (first | refine blk_drewN ?_ _ | refine blk_drew ?_ | refine blk_alloc ?_ _)); exact BK291.out) hb); have n3_ := Aside0.mk (blk_below (g := gb303) (o := .cells #[.slice Ao54 t298.length co54, .int .i64 t301] 89 (0, 0)) (by (with_reducible repeat (first | refine blk_drewN ?_ _ | refine blk_drew ?_ | refine blk_alloc ?_ _)); exact BK303.out) hb); have n4_ := Aside0.mk (below_step (by repeat (first | (with_reducible first | exact HB.out | apply below_alloc | apply pw_below_drewN | apply below_drew1 | refine below_set ?_ GE291.out | refine below_set ?_ GE303.out) | exact HB.out)) hb); clear HO296; clear HO300; clear BK291; clear BK303; clear HB; have HO296 := n0_; have HO300 := n1_; have BK291 := n2_; have BK303 := n3_; have HB := n4_; clear n0_ n1_ n2_ n3_ n4_; (try clear hb); (try clear hb2); (try clear hk); (try clear hi); have hcz61_0 : w60.cell? ⟨gb291, 0, none⟩ = some (.slice A0_0 l0_0.length c0_0) := (blk_cell BK291.out 0).trans rfl; have hcz61_1 : w60.cell? ⟨gb291, 1, none⟩ = some (.slice A0_1 l0_1.length c0_1) := (blk_cell BK291.out 1).trans rfl; have hfz61_0 := blk_frozen BK291.out 0; have hfz61_1 := blk_frozen BK291.out 1) | ((with_reducible refine gate_callee (f := 22) rfl ?_); refine goesL_ (some 100) rfl rfl Try.func22 (by kernel_rfl) rfl #[.slice A0_0 l0_0.length c0_0, .slice A0_1 l0_1.length c0_1] rfl (by (try simp only [List.map_toArray, List.map_cons, List.map_nil]); first | done | rfl | (simp only [List.length_drop, List.length_take]; rfl)) ?_; (with_reducible refine (pantileref01_Part.calls kj13 _ _ l0_0 _ _ l0_1 t306 _ ?side1 ?side2 ?side3 ?side4 A47.out).mono ?_); (case side1 => repeat (first | exact (Kd.C_below HR0_0.out HB.out) | (with_reducible refine Kd.C_alloc ?_ _) | (with_reducible refine Kd.C_drewN ?_ _) | (with_reducible refine Kd.C_drew ?_))); (case side2 => exact HC0_0.out); (case side3 => repeat (first | exact (Kd.C_below HR0_1.out HB.out) | (with_reducible refine Kd.C_alloc ?_ _) | (with_reducible refine Kd.C_drewN ?_ _) | (with_reducible refine Kd.C_drew ?_))); (case side4 => exact HC0_1.out); rintro e w' ⟨rfl, ⟨nd, rfl⟩⟩; refine ⟨_, rfl, ?_⟩))
          (try simp only [Act.put, lsA, ls0, ls1])
          go_cut [118] (fun v118 wc => ∃ (kq : Nat) (x118_47 : Bool), v118 = .bool x118_47 ∧ Aside0 (pantilelaw33_CoverCells.j2 kq a1 t294 t297 x118_47 l0_0 l0_1 = some r) ∧ Aside0 (kq ≤ kj13) ∧ Aside0 (Kd.N k89 89 wc w.heap.size (fun k_ => some k_ ≠ ((.slice Ao54 t298.length co54) : Value).ownBlock ∧ k_ ≠ gb291 ∧ k_ ≠ gb303) v295 t294) ∧ Aside0 (Kd.R (Kd.int .u64) 30 wc w.heap.size (fun _ => True) (.slice Ao54 t298.length co54) t298) ∧ Aside0 (wc.heap[gb291]? = some (.cells #[(.slice A0_0 l0_0.length c0_0), (.slice A0_1 l0_1.length c0_1)] 32 (0, 0))) ∧ Aside0 (wc.heap[gb303]? = some (.cells #[(.slice Ao54 t298.length co54), .int .i64 t301] 89 (0, 0))) ∧ Aside0 (Below w.heap.size w wc))
          case first =>
           have H := HC48.out
           clear HC48
           by_cases c62 : t302 = 0
           ·rw [if_pos c62] at H
            have c62b0 : (t302 == 0) = true := beq_iff_eq.mpr c62
            have c62b1 : (t302 != 0) = false := bne_eq_false_iff_eq.mpr c62
            clear c62
            (first | rw [c62b0] | (simp only [i64_w, i32_w]; rw [c62b0]) | skip)
            by_cases c63 : t301 = t306
            ·rw [if_pos c63] at H
             have c63b0 : (t301 == t306) = true := beq_iff_eq.mpr c63
             have c63b1 : (t301 != t306) = false := bne_eq_false_iff_eq.mpr c63
             clear c63
             replace H := Option.bind_eq_some_iff.mp H
             obtain ⟨t307, A640, H⟩ := H
             replace H : ((pantileref01_Same.f kj13 t298 t307).bind fun t310 => (pantilelaw33_CoverCells.j2 kj13 a1 t294 t297 (!t310) l0_0 l0_1)) = some r := H
             have A64 := Aside0.mk A640
             clear A640
             replace H := Option.bind_eq_some_iff.mp H
             obtain ⟨t310, A650, H⟩ := H
             replace H : (pantilelaw33_CoverCells.j2 kj13 a1 t294 t297 (!t310) l0_0 l0_1) = some r := H
             have A65 := Aside0.mk A650
             clear A650
             have H' := Aside0.mk H
             clear H
             try go_wp2
             have n0_ := Aside0.mk (Kd.N_drew (Kd.N_drewN HO296.out nd))
             have n1_ := Aside0.mk (Kd.R_drew (Kd.R_drewN HO300.out nd))
             have n2_ := Aside0.mk (blk_drew (blk_drewN BK291.out nd))
             have n3_ := Aside0.mk (blk_drew (blk_drewN BK303.out nd))
             have n4_ := Aside0.mk (below_drew1 (pw_below_drewN HB.out nd))
             clear HO296
             clear HO300
             clear BK291
             clear BK303
             clear HB
             have HO296 := n0_
             have HO300 := n1_
             have BK291 := n2_
             have BK303 := n3_
             have HB := n4_
             clear n0_ n1_ n2_ n3_ n4_
             refine start_ (n := 18) (S := fun w' => w'.cell? ⟨gb303, 0, none⟩ = some (.slice Ao54 t298.length co54) ∧ w'.cell? ⟨gb303, 1, none⟩ = some (.int .i64 t301) ∧ w'.cell? ⟨gb291, 0, none⟩ = some (.slice A0_0 l0_0.length c0_0) ∧ w'.cell? ⟨gb291, 1, none⟩ = some (.slice A0_1 l0_1.length c0_1)) (ds := []) #[O,O,O,O,O,O,O,O,O,O,O,O,O,O,O,O,O,O] (by kernel_rfl) rfl rfl ⟨(blk_cell BK303.out 0).trans rfl, (blk_cell BK303.out 1).trans rfl, (blk_cell BK291.out 0).trans rfl, (blk_cell BK291.out 1).trans rfl⟩ (fun hHeld => ?_); refine with_tabW pantilelaw33_CoverCells.tab14 pantilelaw33_CoverCells.bits14 (fun HT_ HW_ => ?_)
             generalize (w60.drewN nd).drew = w66 at HO296 HO300 BK291 BK303 HB hHeld ⊢
             refine pure_ (i := 0) (N := some 101) (v := ?_) (a' := ?_) #[Y,O,O,O,O,O,O,O,O,O,O,O,O,O,O,O,O,O] rfl rfl (any_of HT_.out (by kernel_rfl)) (fun _ _ _ h => h) (Or.inl ⟨by rfl, ?_⟩) ?_ ?_
             rotate_left
             ·intro w'
              go_simp
              with_reducible rfl
             rotate_left
             ·simp only [Act.put, lsA, ls0, ls1, i64_w, i32_w]
              rfl
             refine pure_ (i := 1) (N := some 102) (v := ?_) (a' := ?_) #[Y,Y,O,O,O,O,O,O,O,O,O,O,O,O,O,O,O,O] rfl rfl (any_of HT_.out (by kernel_rfl)) (fun _ _ _ h => h) (Or.inl ⟨by rfl, ?_⟩) ?_ ?_
             rotate_left
             ·intro w'
              go_simp
              with_reducible rfl
             rotate_left
             ·simp only [Act.put, lsA, ls0, ls1, i64_w, i32_w]
              rfl
             refine pure_ (i := 2) (N := some 103) (v := ?_) (a' := ?_) #[Y,Y,Y,O,O,O,O,O,O,O,O,O,O,O,O,O,O,O] rfl rfl (any_of HT_.out (by kernel_rfl)) (fun _ _ _ h => h) (Or.inl ⟨by rfl, ?_⟩) ?_ ?_
             rotate_left
             ·intro w'
              go_simp
              with_reducible rfl
             rotate_left
             ·simp only [Act.put, lsA, ls0, ls1, i64_w, i32_w]
              rfl
             refine pure_ (i := 3) (N := some 104) (v := ?_) (a' := ?_) #[Y,Y,Y,Y,O,O,O,O,O,O,O,O,O,O,O,O,O,O] rfl rfl (any_of HT_.out (by kernel_rfl)) (fun _ _ _ h => h) (Or.inl ⟨by rfl, ?_⟩) ?_ ?_
             rotate_left
             ·intro w'
              go_simp
              with_reducible rfl
             rotate_left
             ·simp only [Act.put, lsA, ls0, ls1, i64_w, i32_w]
              rfl
             refine pure_ (i := 5) (N := some 106) (v := ?_) (a' := ?_) #[Y,Y,Y,Y,O,Y,O,O,O,O,O,O,O,O,O,O,O,O] rfl rfl (any_of HT_.out (by kernel_rfl)) (fun _ _ _ h => h) (Or.inl ⟨by rfl, ?_⟩) ?_ ?_
             rotate_left
             ·intro w'
              go_simp
              with_reducible rfl
             rotate_left
             ·simp only [Act.put, lsA, ls0, ls1, i64_w, i32_w]
              rfl
             refine take_ (i := 4) (N := some 105) (v := ?_) (a' := ?_) #[Y,Y,Y,Y,Y,Y,O,O,O,O,O,O,O,O,O,O,O,O] rfl rfl (take_ofW HT_.out HW_.out (by kernel_rfl)) (fun _ _ _ h => h) (Or.inl ⟨by rfl, ?_⟩) hHeld ?_ ?_
             rotate_left
             ·rintro w' ⟨s0, s1, s2, s3⟩
              go_simp
              with_reducible rfl
             rotate_left
             ·simp only [Act.put, lsA, ls0, ls1, i64_w, i32_w]
              rfl
             refine pure_ (i := 6) (N := some 107) (v := ?_) (a' := ?_) #[Y,Y,Y,Y,Y,Y,Y,O,O,O,O,O,O,O,O,O,O,O] rfl rfl (any_of HT_.out (by kernel_rfl)) (fun _ _ _ h => h) (Or.inl ⟨by rfl, ?_⟩) ?_ ?_
             rotate_left
             ·intro w'
              go_simp
              with_reducible rfl
             rotate_left
             ·simp only [Act.put, lsA, ls0, ls1, i64_w, i32_w]
              rfl
             refine pure_ (i := 7) (N := some 108) (v := ?_) (a' := ?_) #[Y,Y,Y,Y,Y,Y,Y,Y,O,O,O,O,O,O,O,O,O,O] rfl rfl (any_of HT_.out (by kernel_rfl)) (fun _ _ _ h => h) (Or.inl ⟨by rfl, ?_⟩) ?_ ?_
             rotate_left
             ·intro w'
              go_simp
              with_reducible rfl
             rotate_left
             ·simp only [Act.put, lsA, ls0, ls1, i64_w, i32_w]
              rfl
             refine pure_ (i := 8) (N := some 109) (v := ?_) (a' := ?_) #[Y,Y,Y,Y,Y,Y,Y,Y,Y,O,O,O,O,O,O,O,O,O] rfl rfl (any_of HT_.out (by kernel_rfl)) (fun _ _ _ h => h) (Or.inl ⟨by rfl, ?_⟩) ?_ ?_
             rotate_left
             ·intro w'
              go_simp
              with_reducible rfl
             rotate_left
             ·simp only [Act.put, lsA, ls0, ls1, i64_w, i32_w]
              rfl
             refine pure_ (i := 9) (N := some 110) (v := ?_) (a' := ?_) #[Y,Y,Y,Y,Y,Y,Y,Y,Y,Y,O,O,O,O,O,O,O,O] rfl rfl (any_of HT_.out (by kernel_rfl)) (fun _ _ _ h => h) (Or.inl ⟨by rfl, ?_⟩) ?_ ?_
             rotate_left
             ·intro w'
              go_simp
              with_reducible rfl
             rotate_left
             ·simp only [Act.put, lsA, ls0, ls1, i64_w, i32_w]
              rfl
             refine pure_ (i := 11) (N := some 112) (v := ?_) (a' := ?_) #[Y,Y,Y,Y,Y,Y,Y,Y,Y,Y,O,Y,O,O,O,O,O,O] rfl rfl (any_of HT_.out (by kernel_rfl)) (fun _ _ _ h => h) (Or.inl ⟨by rfl, ?_⟩) ?_ ?_
             rotate_left
             ·intro w'
              go_simp
              with_reducible rfl
             rotate_left
             ·simp only [Act.put, lsA, ls0, ls1, i64_w, i32_w]
              rfl
             refine pure_ (i := 13) (N := some 114) (v := ?_) (a' := ?_) #[Y,Y,Y,Y,Y,Y,Y,Y,Y,Y,O,Y,O,Y,O,O,O,O] rfl rfl (any_of HT_.out (by kernel_rfl)) (fun _ _ _ h => h) (Or.inl ⟨by rfl, ?_⟩) ?_ ?_
             rotate_left
             ·intro w'
              go_simp
              with_reducible rfl
             rotate_left
             ·simp only [Act.put, lsA, ls0, ls1, i64_w, i32_w]
              rfl
             refine take_ (i := 10) (N := some 111) (v := ?_) (a' := ?_) #[Y,Y,Y,Y,Y,Y,Y,Y,Y,Y,Y,Y,O,Y,O,O,O,O] rfl rfl (take_ofW HT_.out HW_.out (by kernel_rfl)) (fun _ _ _ h => h) (Or.inl ⟨by rfl, ?_⟩) hHeld ?_ ?_
             rotate_left
             ·rintro w' ⟨s0, s1, s2, s3⟩
              go_simp
              with_reducible rfl
             rotate_left
             ·simp only [Act.put, lsA, ls0, ls1, i64_w, i32_w]
              rfl
             refine take_ (i := 12) (N := some 113) (v := ?_) (a' := ?_) #[Y,Y,Y,Y,Y,Y,Y,Y,Y,Y,Y,Y,Y,Y,O,O,O,O] rfl rfl (take_ofW HT_.out HW_.out (by kernel_rfl)) (fun _ _ _ h => h) (Or.inl ⟨by rfl, ?_⟩) hHeld ?_ ?_
             rotate_left
             ·rintro w' ⟨s0, s1, s2, s3⟩
              go_simp
              with_reducible rfl
             rotate_left
             ·simp only [Act.put, lsA, ls0, ls1, i64_w, i32_w]
              rfl
             refine one_ (i := 14) (N := some 115) #[Y,Y,Y,Y,Y,Y,Y,Y,Y,Y,Y,Y,Y,Y,Y,O,O,O] rfl rfl (one_of HT_.out (by kernel_rfl)) (by decide) (fun K hK => ?_)
             refine goes_ Try.func46 (by kernel_rfl) rfl #[.slice A0_0 l0_0.length c0_0, .int .i64 t306] (by rfl) rfl rfl (by (try simp only [List.map_toArray, List.map_cons, List.map_nil]); first | done | rfl | (simp only [List.length_drop, List.length_take]; rfl)) ?_
             with_reducible refine (pantileref01_Cut.calls kj13 _ _ l0_0 t306 t307 _ ?side1 ?side2 A64.out).mono ?_
             (case side1 => repeat (first | exact (Kd.C_below HR0_0.out HB.out) | (with_reducible refine Kd.C_alloc ?_ _) | (with_reducible refine Kd.C_drewN ?_ _) | (with_reducible refine Kd.C_drew ?_)))
             (case side2 => exact HC0_0.out)
             rintro e w67 ⟨v308, rfl, ho0, hb⟩
             refine ⟨_, rfl, ?_⟩
             have n0_ := Aside0.mk (Kd.N_elder' (by (with_reducible repeat (first | apply Kd.N_alloc | apply Kd.N_drewN | apply Kd.N_drew)); exact HO296.out) (Kd.R_base ho0) hb)
             have n1_ := Aside0.mk (Kd.R_elder' (by (with_reducible repeat (first | apply Kd.R_alloc | apply Kd.R_drewN | apply Kd.R_drew)); exact HO300.out) (Kd.R_base ho0) hb)
             have n2_ := Aside0.mk (Kd.R_lower (Kd.R_new' ho0 (Kd.R_lt (by (with_reducible repeat (first | apply Kd.R_alloc | apply Kd.R_drewN | apply Kd.R_drew)); exact HO300.out))) (below_size (by repeat (first | (with_reducible first | exact HB.out | apply below_alloc | apply pw_below_drewN | apply below_drew1 | refine below_set ?_ GE291.out | refine below_set ?_ GE303.out) | exact HB.out))))
             have n3_ := Aside0.mk (blk_below (g := gb291) (o := .cells #[.slice A0_0 l0_0.length c0_0, .slice A0_1 l0_1.length c0_1] 32 (0, 0)) (by (with_reducible repeat (first | refine blk_drewN ?_ _ | refine blk_drew ?_ | refine blk_alloc ?_ _)); exact BK291.out) hb)
             have n4_ := Aside0.mk (blk_below (g := gb303) (o := .cells #[.slice Ao54 t298.length co54, .int .i64 t301] 89 (0, 0)) (by (with_reducible repeat (first | refine blk_drewN ?_ _ | refine blk_drew ?_ | refine blk_alloc ?_ _)); exact BK303.out) hb)
             have n5_ := Aside0.mk (below_step (by repeat (first | (with_reducible first | exact HB.out | apply below_alloc | apply pw_below_drewN | apply below_drew1 | refine below_set ?_ GE291.out | refine below_set ?_ GE303.out) | exact HB.out)) hb)
             clear HO296
             clear HO300
             clear BK291
             clear BK303
             clear HB
             have HO296 := n0_
             have HO300 := n1_
             have HO309 := n2_
             have BK291 := n3_
             have BK303 := n4_
             have HB := n5_
             clear n0_ n1_ n2_ n3_ n4_ n5_
             (try clear hb)
             (try clear hb2)
             (try clear hk)
             (try clear hi)
             (try clear ho0)
             obtain ⟨Ao68, co68, eo68⟩ := Kd.R_slice HO309.out
             (first | subst eo68 | (injection eo68 with f1_ f2_ f3_; have f4_ := f1_.symm; have f5_ := f3_.symm; clear f1_ f2_ f3_; subst f4_; subst f5_))
             refine hK.out _ _ ⟨(blk_cell BK303.out 0).trans rfl, (blk_cell BK303.out 1).trans rfl, (blk_cell BK291.out 0).trans rfl, (blk_cell BK291.out 1).trans rfl⟩ (fun hHeld => ?_)
             clear hK K
             refine norm_ (a' := ?_) ?_ ?_
             rotate_left
             ·show Act.put _ (some 115) _ = _
              simp only [Act.put, lsA, ls0, ls1, i64_w, i32_w]
              rfl
             refine one_ (i := 15) (N := some 116) #[Y,Y,Y,Y,Y,Y,Y,Y,Y,Y,Y,Y,Y,Y,Y,Y,O,O] rfl rfl (one_of HT_.out (by kernel_rfl)) (by decide) (fun K hK => ?_)
             refine goes_ Try.func23 (by kernel_rfl) rfl #[.slice Ao54 t298.length co54, .slice Ao68 t307.length co68] (by rfl) rfl rfl (by (try simp only [List.map_toArray, List.map_cons, List.map_nil]); first | done | rfl | (simp only [List.length_drop, List.length_take]; rfl)) ?_
             with_reducible refine (pantileref01_Same.calls kj13 _ _ t298 _ _ t307 t310 _ ?side1 ?side2 ?side3 ?side4 A65.out).mono ?_
             (case side1 => repeat (first | exact (Kd.R_reads' HO300.out).2.2 | (with_reducible refine Kd.C_alloc ?_ _) | (with_reducible refine Kd.C_drewN ?_ _) | (with_reducible refine Kd.C_drew ?_)))
             (case side2 => exact (Kd.R_reads' HO300.out).2.1)
             (case side3 => repeat (first | exact (Kd.R_reads' HO309.out).2.2 | (with_reducible refine Kd.C_alloc ?_ _) | (with_reducible refine Kd.C_drewN ?_ _) | (with_reducible refine Kd.C_drew ?_)))
             (case side4 => exact (Kd.R_reads' HO309.out).2.1)
             rintro e w' ⟨rfl, ⟨nd, rfl⟩⟩
             refine ⟨_, rfl, ?_⟩
             refine hK.out _ _ ⟨(blk_cell BK303.out 0).trans rfl, (blk_cell BK303.out 1).trans rfl, (blk_cell BK291.out 0).trans rfl, (blk_cell BK291.out 1).trans rfl⟩ (fun hHeld => ?_)
             clear hK K
             refine norm_ (a' := ?_) ?_ ?_
             rotate_left
             ·show Act.put _ (some 116) _ = _
              simp only [Act.put, lsA, ls0, ls1, i64_w, i32_w]
              rfl
             refine pure_ (i := 16) (N := some 117) (v := ?_) (a' := ?_) #[Y,Y,Y,Y,Y,Y,Y,Y,Y,Y,Y,Y,Y,Y,Y,Y,Y,O] rfl rfl (any_of HT_.out (by kernel_rfl)) (fun _ _ _ h => h) (Or.inl ⟨by rfl, ?_⟩) ?_ ?_
             rotate_left
             ·intro w'
              go_simp
              with_reducible rfl
             rotate_left
             ·simp only [Act.put, lsA, ls0, ls1, i64_w, i32_w]
              rfl
             refine pure_ (i := 17) (N := some 118) (v := ?_) (a' := ?_) #[Y,Y,Y,Y,Y,Y,Y,Y,Y,Y,Y,Y,Y,Y,Y,Y,Y,Y] rfl rfl (any_of HT_.out (by kernel_rfl)) (fun _ _ _ h => h) (Or.inl ⟨by rfl, ?_⟩) ?_ ?_
             rotate_left
             ·intro w'
              go_simp
              with_reducible rfl
             rotate_left
             ·simp only [Act.put, lsA, ls0, ls1, i64_w, i32_w]
              rfl
             refine done_ (done_of HT_.out (by kernel_rfl)) ?_
             try go_wp2
             go_meet
             case rel => exact ⟨_, (!t310), (by first | rfl | (simp; done) | (simp [*]; done)), H', ⟨by have := HJ4.out; have := HJ13.out; first | omega | exact Nat.le_refl _⟩, ⟨by (with_reducible repeat (first | apply Kd.N_alloc | apply Kd.N_drewN | apply Kd.N_drew)); exact Kd.N_mono HO296.out (fun _ hk => ⟨hk.1.1.2, ⟨hk.1.1.1, hk.1.2⟩⟩)⟩, ⟨by (with_reducible repeat (first | apply Kd.R_alloc | apply Kd.R_drewN | apply Kd.R_drew)); exact Kd.R_mono HO300.out (fun _ hk => trivial)⟩, ⟨by (with_reducible repeat (first | refine blk_drewN ?_ _ | refine blk_drew ?_ | refine blk_alloc ?_ _)); exact BK291.out⟩, ⟨by (with_reducible repeat (first | refine blk_drewN ?_ _ | refine blk_drew ?_ | refine blk_alloc ?_ _)); exact BK303.out⟩, ⟨by repeat (first | (with_reducible first | exact HB.out | apply below_alloc | apply pw_below_drewN | apply below_drew1 | refine below_set ?_ GE291.out | refine below_set ?_ GE303.out) | exact HB.out)⟩⟩
            ·rw [if_neg c63] at H
             have c63b0 : (t301 == t306) = false := beq_eq_false_iff_ne.mpr c63
             have c63b1 : (t301 != t306) = true := bne_iff_ne.mpr c63
             have H' := Aside0.mk H
             clear H
             try go_wp2
             have n0_ := Aside0.mk (Kd.N_drew (Kd.N_drewN HO296.out nd))
             have n1_ := Aside0.mk (Kd.R_drew (Kd.R_drewN HO300.out nd))
             have n2_ := Aside0.mk (blk_drew (blk_drewN BK291.out nd))
             have n3_ := Aside0.mk (blk_drew (blk_drewN BK303.out nd))
             have n4_ := Aside0.mk (below_drew1 (pw_below_drewN HB.out nd))
             clear HO296
             clear HO300
             clear BK291
             clear BK303
             clear HB
             have HO296 := n0_
             have HO300 := n1_
             have BK291 := n2_
             have BK303 := n3_
             have HB := n4_
             clear n0_ n1_ n2_ n3_ n4_
             refine start_ (n := 18) (S := fun w' => w'.cell? ⟨gb303, 0, none⟩ = some (.slice Ao54 t298.length co54) ∧ w'.cell? ⟨gb303, 1, none⟩ = some (.int .i64 t301)) (ds := []) #[O,O,O,O,O,O,O,O,O,O,O,O,O,O,O,O,O,O] (by kernel_rfl) rfl rfl ⟨(blk_cell BK303.out 0).trans rfl, (blk_cell BK303.out 1).trans rfl⟩ (fun hHeld => ?_); refine with_tabW pantilelaw33_CoverCells.tab14 pantilelaw33_CoverCells.bits14 (fun HT_ HW_ => ?_)
             generalize (w60.drewN nd).drew = w69 at HO296 HO300 BK291 BK303 HB hHeld ⊢
             refine pure_ (i := 0) (N := some 101) (v := ?_) (a' := ?_) #[Y,O,O,O,O,O,O,O,O,O,O,O,O,O,O,O,O,O] rfl rfl (any_of HT_.out (by kernel_rfl)) (fun _ _ _ h => h) (Or.inl ⟨by rfl, ?_⟩) ?_ ?_
             rotate_left
             ·intro w'
              go_simp
              with_reducible rfl
             rotate_left
             ·simp only [Act.put, lsA, ls0, ls1, i64_w, i32_w]
              rfl
             refine pure_ (i := 1) (N := some 102) (v := ?_) (a' := ?_) #[Y,Y,O,O,O,O,O,O,O,O,O,O,O,O,O,O,O,O] rfl rfl (any_of HT_.out (by kernel_rfl)) (fun _ _ _ h => h) (Or.inl ⟨by rfl, ?_⟩) ?_ ?_
             rotate_left
             ·intro w'
              go_simp
              with_reducible rfl
             rotate_left
             ·simp only [Act.put, lsA, ls0, ls1, i64_w, i32_w]
              rfl
             refine pure_ (i := 2) (N := some 103) (v := ?_) (a' := ?_) #[Y,Y,Y,O,O,O,O,O,O,O,O,O,O,O,O,O,O,O] rfl rfl (any_of HT_.out (by kernel_rfl)) (fun _ _ _ h => h) (Or.inl ⟨by rfl, ?_⟩) ?_ ?_
             rotate_left
             ·intro w'
              go_simp
              with_reducible rfl
             rotate_left
             ·simp only [Act.put, lsA, ls0, ls1, i64_w, i32_w]
              rfl
             refine pure_ (i := 3) (N := some 104) (v := ?_) (a' := ?_) #[Y,Y,Y,Y,O,O,O,O,O,O,O,O,O,O,O,O,O,O] rfl rfl (any_of HT_.out (by kernel_rfl)) (fun _ _ _ h => h) (Or.inl ⟨by rfl, ?_⟩) ?_ ?_
             rotate_left
             ·intro w'
              go_simp
              with_reducible rfl
             rotate_left
             ·simp only [Act.put, lsA, ls0, ls1, i64_w, i32_w]
              rfl
             refine pure_ (i := 5) (N := some 106) (v := ?_) (a' := ?_) #[Y,Y,Y,Y,O,Y,O,O,O,O,O,O,O,O,O,O,O,O] rfl rfl (any_of HT_.out (by kernel_rfl)) (fun _ _ _ h => h) (Or.inl ⟨by rfl, ?_⟩) ?_ ?_
             rotate_left
             ·intro w'
              go_simp
              with_reducible rfl
             rotate_left
             ·simp only [Act.put, lsA, ls0, ls1, i64_w, i32_w]
              rfl
             refine take_ (i := 4) (N := some 105) (v := ?_) (a' := ?_) #[Y,Y,Y,Y,Y,Y,O,O,O,O,O,O,O,O,O,O,O,O] rfl rfl (take_ofW HT_.out HW_.out (by kernel_rfl)) (fun _ _ _ h => h) (Or.inl ⟨by rfl, ?_⟩) hHeld ?_ ?_
             rotate_left
             ·rintro w' ⟨s0, s1⟩
              go_simp
              with_reducible rfl
             rotate_left
             ·simp only [Act.put, lsA, ls0, ls1, i64_w, i32_w]
              rfl
             refine pure_ (i := 6) (N := some 107) (v := ?_) (a' := ?_) #[Y,Y,Y,Y,Y,Y,Y,O,O,O,O,O,O,O,O,O,O,O] rfl rfl (any_of HT_.out (by kernel_rfl)) (fun _ _ _ h => h) (Or.inl ⟨by rfl, ?_⟩) ?_ ?_
             rotate_left
             ·intro w'
              go_simp
              with_reducible rfl
             rotate_left
             ·simp only [Act.put, lsA, ls0, ls1, i64_w, i32_w]
              rfl
             refine pure_ (i := 7) (N := some 108) (v := ?_) (a' := ?_) #[Y,Y,Y,Y,Y,Y,Y,Y,O,O,O,O,O,O,O,O,O,O] rfl rfl (any_of HT_.out (by kernel_rfl)) (fun _ _ _ h => h) (Or.inl ⟨by rfl, ?_⟩) ?_ ?_
             rotate_left
             ·intro w'
              go_simp
              with_reducible rfl
             rotate_left
             ·simp only [Act.put, lsA, ls0, ls1, i64_w, i32_w]
              rfl
             refine pure_ (i := 8) (N := some 109) (v := ?_) (a' := ?_) #[Y,Y,Y,Y,Y,Y,Y,Y,Y,O,O,O,O,O,O,O,O,O] rfl rfl (any_of HT_.out (by kernel_rfl)) (fun _ _ _ h => h) (Or.inl ⟨by rfl, ?_⟩) ?_ ?_
             rotate_left
             ·intro w'
              go_simp
              with_reducible rfl
             rotate_left
             ·simp only [Act.put, lsA, ls0, ls1, i64_w, i32_w]
              rfl
             refine pure_ (i := 9) (N := some 110) (v := undef) (a' := ?_) #[Y,Y,Y,Y,Y,Y,Y,Y,Y,Y,O,O,O,O,O,O,O,O] rfl rfl (any_of HT_.out (by kernel_rfl)) (fun _ _ _ h => h) (Or.inr ⟨by rfl, rfl⟩) ?_ ?_
             rotate_left
             ·simp only [Act.put, lsA, ls0, ls1, i64_w, i32_w]
              rfl
             refine pure_ (i := 10) (N := some 111) (v := undef) (a' := ?_) #[Y,Y,Y,Y,Y,Y,Y,Y,Y,Y,Y,O,O,O,O,O,O,O] rfl rfl (any_of HT_.out (by kernel_rfl)) (fun _ _ _ h => h) (Or.inr ⟨by rfl, rfl⟩) ?_ ?_
             rotate_left
             ·simp only [Act.put, lsA, ls0, ls1, i64_w, i32_w]
              rfl
             refine pure_ (i := 11) (N := some 112) (v := undef) (a' := ?_) #[Y,Y,Y,Y,Y,Y,Y,Y,Y,Y,Y,Y,O,O,O,O,O,O] rfl rfl (any_of HT_.out (by kernel_rfl)) (fun _ _ _ h => h) (Or.inr ⟨by rfl, rfl⟩) ?_ ?_
             rotate_left
             ·simp only [Act.put, lsA, ls0, ls1, i64_w, i32_w]
              rfl
             refine pure_ (i := 12) (N := some 113) (v := undef) (a' := ?_) #[Y,Y,Y,Y,Y,Y,Y,Y,Y,Y,Y,Y,Y,O,O,O,O,O] rfl rfl (any_of HT_.out (by kernel_rfl)) (fun _ _ _ h => h) (Or.inr ⟨by rfl, rfl⟩) ?_ ?_
             rotate_left
             ·simp only [Act.put, lsA, ls0, ls1, i64_w, i32_w]
              rfl
             refine pure_ (i := 13) (N := some 114) (v := undef) (a' := ?_) #[Y,Y,Y,Y,Y,Y,Y,Y,Y,Y,Y,Y,Y,Y,O,O,O,O] rfl rfl (any_of HT_.out (by kernel_rfl)) (fun _ _ _ h => h) (Or.inr ⟨by rfl, rfl⟩) ?_ ?_
             rotate_left
             ·simp only [Act.put, lsA, ls0, ls1, i64_w, i32_w]
              rfl
             refine pure_ (i := 14) (N := some 115) (v := undef) (a' := ?_) #[Y,Y,Y,Y,Y,Y,Y,Y,Y,Y,Y,Y,Y,Y,Y,O,O,O] rfl rfl (any_of HT_.out (by kernel_rfl)) (fun _ _ _ h => h) (Or.inr ⟨by rfl, rfl⟩) ?_ ?_
             rotate_left
             ·simp only [Act.put, lsA, ls0, ls1, i64_w, i32_w]
              rfl
             refine pure_ (i := 15) (N := some 116) (v := undef) (a' := ?_) #[Y,Y,Y,Y,Y,Y,Y,Y,Y,Y,Y,Y,Y,Y,Y,Y,O,O] rfl rfl (any_of HT_.out (by kernel_rfl)) (fun _ _ _ h => h) (Or.inr ⟨by rfl, rfl⟩) ?_ ?_
             rotate_left
             ·simp only [Act.put, lsA, ls0, ls1, i64_w, i32_w]
              rfl
             refine pure_ (i := 16) (N := some 117) (v := undef) (a' := ?_) #[Y,Y,Y,Y,Y,Y,Y,Y,Y,Y,Y,Y,Y,Y,Y,Y,Y,O] rfl rfl (any_of HT_.out (by kernel_rfl)) (fun _ _ _ h => h) (Or.inr ⟨by rfl, rfl⟩) ?_ ?_
             rotate_left
             ·simp only [Act.put, lsA, ls0, ls1, i64_w, i32_w]
              rfl
             refine pure_ (i := 17) (N := some 118) (v := ?_) (a' := ?_) #[Y,Y,Y,Y,Y,Y,Y,Y,Y,Y,Y,Y,Y,Y,Y,Y,Y,Y] rfl rfl (any_of HT_.out (by kernel_rfl)) (fun _ _ _ h => h) (Or.inl ⟨by rfl, ?_⟩) ?_ ?_
             rotate_left
             ·intro w'
              go_simp
              with_reducible rfl
             rotate_left
             ·simp only [Act.put, lsA, ls0, ls1, i64_w, i32_w]
              rfl
             refine done_ (done_of HT_.out (by kernel_rfl)) ?_
             try go_wp2
             go_meet
             case rel => exact ⟨_, (true), (by first | rfl | (simp; done) | (simp [*]; done)), H', ⟨by have := HJ4.out; have := HJ13.out; first | omega | exact Nat.le_refl _⟩, ⟨by (with_reducible repeat (first | apply Kd.N_alloc | apply Kd.N_drewN | apply Kd.N_drew)); exact Kd.N_mono HO296.out (fun _ hk => ⟨hk.1.2, ⟨hk.1.1, hk.2⟩⟩)⟩, ⟨by (with_reducible repeat (first | apply Kd.R_alloc | apply Kd.R_drewN | apply Kd.R_drew)); exact HO300.out⟩, ⟨by (with_reducible repeat (first | refine blk_drewN ?_ _ | refine blk_drew ?_ | refine blk_alloc ?_ _)); exact BK291.out⟩, ⟨by (with_reducible repeat (first | refine blk_drewN ?_ _ | refine blk_drew ?_ | refine blk_alloc ?_ _)); exact BK303.out⟩, ⟨by repeat (first | (with_reducible first | exact HB.out | apply below_alloc | apply pw_below_drewN | apply below_drew1 | refine below_set ?_ GE291.out | refine below_set ?_ GE303.out) | exact HB.out)⟩⟩
           ·rw [if_neg c62] at H
            have c62b0 : (t302 == 0) = false := beq_eq_false_iff_ne.mpr c62
            have c62b1 : (t302 != 0) = true := bne_iff_ne.mpr c62
            (first | rw [c62b0] | (simp only [i64_w, i32_w]; rw [c62b0]) | skip)
            have H' := Aside0.mk H
            clear H
            try go_wp2
            have n0_ := Aside0.mk (Kd.N_drew (Kd.N_drewN HO296.out nd))
            have n1_ := Aside0.mk (Kd.R_drew (Kd.R_drewN HO300.out nd))
            have n2_ := Aside0.mk (blk_drew (blk_drewN BK291.out nd))
            have n3_ := Aside0.mk (blk_drew (blk_drewN BK303.out nd))
            have n4_ := Aside0.mk (below_drew1 (pw_below_drewN HB.out nd))
            clear HO296
            clear HO300
            clear BK291
            clear BK303
            clear HB
            have HO296 := n0_
            have HO300 := n1_
            have BK291 := n2_
            have BK303 := n3_
            have HB := n4_
            clear n0_ n1_ n2_ n3_ n4_
            refine start_ (n := 18) (S := fun w' => True) (ds := []) #[O,O,O,O,O,O,O,O,O,O,O,O,O,O,O,O,O,O] (by kernel_rfl) rfl rfl trivial (fun hHeld => ?_); refine with_tabW pantilelaw33_CoverCells.tab14 pantilelaw33_CoverCells.bits14 (fun HT_ HW_ => ?_)
            generalize (w60.drewN nd).drew = w70 at HO296 HO300 BK291 BK303 HB hHeld ⊢
            refine pure_ (i := 0) (N := some 101) (v := ?_) (a' := ?_) #[Y,O,O,O,O,O,O,O,O,O,O,O,O,O,O,O,O,O] rfl rfl (any_of HT_.out (by kernel_rfl)) (fun _ _ _ h => h) (Or.inl ⟨by rfl, ?_⟩) ?_ ?_
            rotate_left
            ·intro w'
             go_simp
             with_reducible rfl
            rotate_left
            ·simp only [Act.put, lsA, ls0, ls1, i64_w, i32_w]
             rfl
            refine pure_ (i := 1) (N := some 102) (v := ?_) (a' := ?_) #[Y,Y,O,O,O,O,O,O,O,O,O,O,O,O,O,O,O,O] rfl rfl (any_of HT_.out (by kernel_rfl)) (fun _ _ _ h => h) (Or.inl ⟨by rfl, ?_⟩) ?_ ?_
            rotate_left
            ·intro w'
             go_simp
             with_reducible rfl
            rotate_left
            ·simp only [Act.put, lsA, ls0, ls1, i64_w, i32_w]
             rfl
            refine pure_ (i := 2) (N := some 103) (v := ?_) (a' := ?_) #[Y,Y,Y,O,O,O,O,O,O,O,O,O,O,O,O,O,O,O] rfl rfl (any_of HT_.out (by kernel_rfl)) (fun _ _ _ h => h) (Or.inl ⟨by rfl, ?_⟩) ?_ ?_
            rotate_left
            ·intro w'
             go_simp
             with_reducible rfl
            rotate_left
            ·simp only [Act.put, lsA, ls0, ls1, i64_w, i32_w]
             rfl
            refine pure_ (i := 3) (N := some 104) (v := undef) (a' := ?_) #[Y,Y,Y,Y,O,O,O,O,O,O,O,O,O,O,O,O,O,O] rfl rfl (any_of HT_.out (by kernel_rfl)) (fun _ _ _ h => h) (Or.inr ⟨by rfl, rfl⟩) ?_ ?_
            rotate_left
            ·simp only [Act.put, lsA, ls0, ls1, i64_w, i32_w]
             rfl
            refine pure_ (i := 4) (N := some 105) (v := undef) (a' := ?_) #[Y,Y,Y,Y,Y,O,O,O,O,O,O,O,O,O,O,O,O,O] rfl rfl (any_of HT_.out (by kernel_rfl)) (fun _ _ _ h => h) (Or.inr ⟨by rfl, rfl⟩) ?_ ?_
            rotate_left
            ·simp only [Act.put, lsA, ls0, ls1, i64_w, i32_w]
             rfl
            refine pure_ (i := 5) (N := some 106) (v := undef) (a' := ?_) #[Y,Y,Y,Y,Y,Y,O,O,O,O,O,O,O,O,O,O,O,O] rfl rfl (any_of HT_.out (by kernel_rfl)) (fun _ _ _ h => h) (Or.inr ⟨by rfl, rfl⟩) ?_ ?_
            rotate_left
            ·simp only [Act.put, lsA, ls0, ls1, i64_w, i32_w]
             rfl
            refine pure_ (i := 6) (N := some 107) (v := undef) (a' := ?_) #[Y,Y,Y,Y,Y,Y,Y,O,O,O,O,O,O,O,O,O,O,O] rfl rfl (any_of HT_.out (by kernel_rfl)) (fun _ _ _ h => h) (Or.inr ⟨by rfl, rfl⟩) ?_ ?_
            rotate_left
            ·simp only [Act.put, lsA, ls0, ls1, i64_w, i32_w]
             rfl
            refine pure_ (i := 7) (N := some 108) (v := ?_) (a' := ?_) #[Y,Y,Y,Y,Y,Y,Y,Y,O,O,O,O,O,O,O,O,O,O] rfl rfl (any_of HT_.out (by kernel_rfl)) (fun _ _ _ h => h) (Or.inl ⟨by rfl, ?_⟩) ?_ ?_
            rotate_left
            ·intro w'
             go_simp
             with_reducible rfl
            rotate_left
            ·simp only [Act.put, lsA, ls0, ls1, i64_w, i32_w]
             rfl
            refine pure_ (i := 8) (N := some 109) (v := ?_) (a' := ?_) #[Y,Y,Y,Y,Y,Y,Y,Y,Y,O,O,O,O,O,O,O,O,O] rfl rfl (any_of HT_.out (by kernel_rfl)) (fun _ _ _ h => h) (Or.inl ⟨by rfl, ?_⟩) ?_ ?_
            rotate_left
            ·intro w'
             go_simp
             with_reducible rfl
            rotate_left
            ·simp only [Act.put, lsA, ls0, ls1, i64_w, i32_w]
             rfl
            refine pure_ (i := 9) (N := some 110) (v := undef) (a' := ?_) #[Y,Y,Y,Y,Y,Y,Y,Y,Y,Y,O,O,O,O,O,O,O,O] rfl rfl (any_of HT_.out (by kernel_rfl)) (fun _ _ _ h => h) (Or.inr ⟨by rfl, rfl⟩) ?_ ?_
            rotate_left
            ·simp only [Act.put, lsA, ls0, ls1, i64_w, i32_w]
             rfl
            refine pure_ (i := 10) (N := some 111) (v := undef) (a' := ?_) #[Y,Y,Y,Y,Y,Y,Y,Y,Y,Y,Y,O,O,O,O,O,O,O] rfl rfl (any_of HT_.out (by kernel_rfl)) (fun _ _ _ h => h) (Or.inr ⟨by rfl, rfl⟩) ?_ ?_
            rotate_left
            ·simp only [Act.put, lsA, ls0, ls1, i64_w, i32_w]
             rfl
            refine pure_ (i := 11) (N := some 112) (v := undef) (a' := ?_) #[Y,Y,Y,Y,Y,Y,Y,Y,Y,Y,Y,Y,O,O,O,O,O,O] rfl rfl (any_of HT_.out (by kernel_rfl)) (fun _ _ _ h => h) (Or.inr ⟨by rfl, rfl⟩) ?_ ?_
            rotate_left
            ·simp only [Act.put, lsA, ls0, ls1, i64_w, i32_w]
             rfl
            refine pure_ (i := 12) (N := some 113) (v := undef) (a' := ?_) #[Y,Y,Y,Y,Y,Y,Y,Y,Y,Y,Y,Y,Y,O,O,O,O,O] rfl rfl (any_of HT_.out (by kernel_rfl)) (fun _ _ _ h => h) (Or.inr ⟨by rfl, rfl⟩) ?_ ?_
            rotate_left
            ·simp only [Act.put, lsA, ls0, ls1, i64_w, i32_w]
             rfl
            refine pure_ (i := 13) (N := some 114) (v := undef) (a' := ?_) #[Y,Y,Y,Y,Y,Y,Y,Y,Y,Y,Y,Y,Y,Y,O,O,O,O] rfl rfl (any_of HT_.out (by kernel_rfl)) (fun _ _ _ h => h) (Or.inr ⟨by rfl, rfl⟩) ?_ ?_
            rotate_left
            ·simp only [Act.put, lsA, ls0, ls1, i64_w, i32_w]
             rfl
            refine pure_ (i := 14) (N := some 115) (v := undef) (a' := ?_) #[Y,Y,Y,Y,Y,Y,Y,Y,Y,Y,Y,Y,Y,Y,Y,O,O,O] rfl rfl (any_of HT_.out (by kernel_rfl)) (fun _ _ _ h => h) (Or.inr ⟨by rfl, rfl⟩) ?_ ?_
            rotate_left
            ·simp only [Act.put, lsA, ls0, ls1, i64_w, i32_w]
             rfl
            refine pure_ (i := 15) (N := some 116) (v := undef) (a' := ?_) #[Y,Y,Y,Y,Y,Y,Y,Y,Y,Y,Y,Y,Y,Y,Y,Y,O,O] rfl rfl (any_of HT_.out (by kernel_rfl)) (fun _ _ _ h => h) (Or.inr ⟨by rfl, rfl⟩) ?_ ?_
            rotate_left
            ·simp only [Act.put, lsA, ls0, ls1, i64_w, i32_w]
             rfl
            refine pure_ (i := 16) (N := some 117) (v := undef) (a' := ?_) #[Y,Y,Y,Y,Y,Y,Y,Y,Y,Y,Y,Y,Y,Y,Y,Y,Y,O] rfl rfl (any_of HT_.out (by kernel_rfl)) (fun _ _ _ h => h) (Or.inr ⟨by rfl, rfl⟩) ?_ ?_
            rotate_left
            ·simp only [Act.put, lsA, ls0, ls1, i64_w, i32_w]
             rfl
            refine pure_ (i := 17) (N := some 118) (v := ?_) (a' := ?_) #[Y,Y,Y,Y,Y,Y,Y,Y,Y,Y,Y,Y,Y,Y,Y,Y,Y,Y] rfl rfl (any_of HT_.out (by kernel_rfl)) (fun _ _ _ h => h) (Or.inl ⟨by rfl, ?_⟩) ?_ ?_
            rotate_left
            ·intro w'
             go_simp
             with_reducible rfl
            rotate_left
            ·simp only [Act.put, lsA, ls0, ls1, i64_w, i32_w]
             rfl
            refine done_ (done_of HT_.out (by kernel_rfl)) ?_
            try go_wp2
            go_meet
            case rel => exact ⟨_, (true), (by first | rfl | (simp; done) | (simp [*]; done)), H', ⟨by have := HJ4.out; have := HJ13.out; first | omega | exact Nat.le_refl _⟩, ⟨by (with_reducible repeat (first | apply Kd.N_alloc | apply Kd.N_drewN | apply Kd.N_drew)); exact Kd.N_mono HO296.out (fun _ hk => ⟨hk.1.2, ⟨hk.1.1, hk.2⟩⟩)⟩, ⟨by (with_reducible repeat (first | apply Kd.R_alloc | apply Kd.R_drewN | apply Kd.R_drew)); exact HO300.out⟩, ⟨by (with_reducible repeat (first | refine blk_drewN ?_ _ | refine blk_drew ?_ | refine blk_alloc ?_ _)); exact BK291.out⟩, ⟨by (with_reducible repeat (first | refine blk_drewN ?_ _ | refine blk_drew ?_ | refine blk_alloc ?_ _)); exact BK303.out⟩, ⟨by repeat (first | (with_reducible first | exact HB.out | apply below_alloc | apply pw_below_drewN | apply below_drew1 | refine below_set ?_ GE291.out | refine below_set ?_ GE303.out) | exact HB.out)⟩⟩
          case rest =>
           clear HC48
           try clear c2; try clear p2; try clear c3; try clear c4; try clear c5; try clear c6; try clear c22; try clear c23; try clear c26; try clear c28; try clear c29; try clear c29b0; try clear c29b1; try clear c29b2; try clear c30; try clear c30b0; try clear c30b1; try clear c30b2; try clear c31; try clear c31b0; try clear c31b1; try clear c31b2; try clear c32; try clear c32b0; try clear c32b1; try clear c32b2; try clear c36; try clear c39; try clear c40; try clear c46; try clear c55; try clear c62; try clear c62b0; try clear c62b1; try clear c63; try clear c63b0; try clear c63b1; try clear c67; try clear c68; try clear hcz33_0; try clear hcz33_1; try clear hcz35_0; try clear hcz35_1; try clear hcz40_0; try clear hcz40_1; try clear hcz41_0; try clear hcz41_1; try clear hcz43_0; try clear hcz43_1; try clear hcz46_0; try clear hcz46_1; try clear hcz49_0; try clear hcz49_1; try clear hcz51_0; try clear hcz51_1; try clear hcz56_0; try clear hcz56_1; try clear hcz57_0; try clear hcz57_1; try clear hcz59_0; try clear hcz59_1; try clear hcz61_0; try clear hcz61_1; try clear hfz33_0; try clear hfz33_1; try clear hfz35_0; try clear hfz35_1; try clear hfz40_0; try clear hfz40_1; try clear hfz41_0; try clear hfz41_1; try clear hfz43_0; try clear hfz43_1; try clear hfz46_0; try clear hfz46_1; try clear hfz49_0; try clear hfz49_1; try clear hfz51_0; try clear hfz51_1; try clear hfz56_0; try clear hfz56_1; try clear hfz57_0; try clear hfz57_1; try clear hfz59_0; try clear hfz59_1; try clear hfz61_0; try clear hfz61_1
           obtain ⟨kq, x118_47, rfl, HA, HJ47, HO_5, HO_304000, BK291, BK303, HB⟩ := hcut
           cases kq with
           | zero => exact absurd HA.out (by simp [pantilelaw33_CoverCells.j2])
           | succ kj47 =>
            have H := HA.out
            clear HA
            simp only [pantilelaw33_CoverCells.j2] at H
            by_cases c71 : x118_47 = true
            ·subst c71
             have H1 : (some false) = some r := by rw [if_pos rfl] at H; exact H
             clear H
             have H := H1
             clear H1
             exact Bool.noConfusion ((Option.some.inj H).trans HRT.out)
            ·replace c71 := Bool.eq_false_iff.mpr c71
             subst c71
             have H1 : (if 0 ≤ (l0_0.length : Int) then (if ((l0_0.length : Int) : Int).toNat ≤ 35184372088832 then ((pantileref33_Cells.f kj47 (List.replicate ((l0_0.length : Int) : Int).toNat 0) 63 l0_0 l0_1 (mx a1 0)).bind fun t314 => (if (t314.length : Int) > a1 then (if (t294.length : Int) = 0 then (some (t297 == 11)) else (some false)) else (if t297 = 0 then (pantilelaw33_CoverCells.j3 kj47 t294 t314 ((t294.length : Int) != (t314.length : Int))) else (pantilelaw33_CoverCells.j3 kj47 t294 t314 true)))) else (none)) else (none)) = some r := by rw [if_neg (show ¬ (false = true) by decide)] at H; exact H
             clear H
             have H := H1
             clear H1
             by_cases c72 : 0 ≤ (l0_0.length : Int)
             ·rw [if_pos c72] at H
              have c72b0 := eq_true c72
              have c72b1 : decide (0 ≤ (l0_0.length : Int)) = true := decide_eq_true c72
              clear c72
              by_cases c73 : ((l0_0.length : Int) : Int).toNat ≤ 35184372088832
              ·rw [if_pos c73] at H
               have c73b0 := eq_true c73
               have c73b1 : decide (((l0_0.length : Int) : Int).toNat ≤ 35184372088832) = true := decide_eq_true c73
               clear c73
               obtain ⟨y311, hy311⟩ : ∃ y_ : List Int, y_ = (List.replicate ((l0_0.length : Int) : Int).toNat 0) := ⟨_, rfl⟩
               replace H : ((pantileref33_Cells.f kj47 y311 63 l0_0 l0_1 (mx a1 0)).bind fun t314 => (if (t314.length : Int) > a1 then (if (t294.length : Int) = 0 then (some (t297 == 11)) else (some false)) else (if t297 = 0 then (pantilelaw33_CoverCells.j3 kj47 t294 t314 ((t294.length : Int) != (t314.length : Int))) else (pantilelaw33_CoverCells.j3 kj47 t294 t314 true)))) = some r := by first | (rw [hy311]; with_reducible exact H) | (have H2_ := (Option.bind_some _ _).symm.trans H; rw [hy311]; with_reducible exact H2_) | (have H2_ := (Option.bind_some _ _).symm.trans H; with_reducible exact H2_) | with_reducible exact H | (rw [hy311]; exact H) | exact H
               have Ny311 := Aside0.mk hy311
               clear hy311
               obtain ⟨ji74, hji74⟩ : ∃ j_ : Int, (mx a1 0) = j_ := ⟨_, rfl⟩
               replace H : ((pantileref33_Cells.f kj47 y311 63 l0_0 l0_1 (ji74)).bind fun t314 => (if (t314.length : Int) > a1 then (if (t294.length : Int) = 0 then (some (t297 == 11)) else (some false)) else (if t297 = 0 then (pantilelaw33_CoverCells.j3 kj47 t294 t314 ((t294.length : Int) != (t314.length : Int))) else (pantilelaw33_CoverCells.j3 kj47 t294 t314 true)))) = some r := by first | (rw [hji74] at H; exact H) | (simp only [hji74] at H ⊢; exact H)
               have hji74_ : (if a1 < 0 then 0 else a1) = ji74 := hji74
               replace H := Option.bind_eq_some_iff.mp H
               obtain ⟨t314, A750, H⟩ := H
               replace H : (if (t314.length : Int) > a1 then (if (t294.length : Int) = 0 then (some (t297 == 11)) else (some false)) else (if t297 = 0 then (pantilelaw33_CoverCells.j3 kj47 t294 t314 ((t294.length : Int) != (t314.length : Int))) else (pantilelaw33_CoverCells.j3 kj47 t294 t314 true))) = some r := H
               have A75 := Aside0.mk A750
               clear A750
               by_cases c76 : (t314.length : Int) > a1
               ·rw [if_pos c76] at H
                have c76b0 : decide (a1 < (t314.length : Int)) = true := decide_eq_true c76
                clear c76
                by_cases c77 : (t294.length : Int) = 0
                ·rw [if_pos c77] at H
                 have c77b0 : ((t294.length : Int) == 0) = true := beq_iff_eq.mpr c77
                 have c77b1 : ((t294.length : Int) != 0) = false := bne_eq_false_iff_eq.mpr c77
                 clear c77
                 obtain rfl := Option.some.inj H
                 try go_wp2
                 have n0_ := Aside0.mk (Kd.N_drew HO_5.out)
                 have n1_ := Aside0.mk (Kd.R_drew HO_304000.out)
                 have n2_ := Aside0.mk (blk_drew BK291.out)
                 have n3_ := Aside0.mk (blk_drew BK303.out)
                 have n4_ := Aside0.mk (below_drew1 HB.out)
                 clear HO_5
                 clear HO_304000
                 clear BK291
                 clear BK303
                 clear HB
                 have HO_5 := n0_
                 have HO_304000 := n1_
                 have BK291 := n2_
                 have BK303 := n3_
                 have HB := n4_
                 clear n0_ n1_ n2_ n3_ n4_
                 refine start_ (n := 10) (S := fun w' => w'.cell? ⟨gb291, 0, none⟩ = some (.slice A0_0 l0_0.length c0_0) ∧ w'.cell? ⟨gb291, 1, none⟩ = some (.slice A0_1 l0_1.length c0_1)) (ds := []) #[O,O,O,O,O,O,O,O,O,O] (by kernel_rfl) rfl rfl ⟨(blk_cell BK291.out 0).trans rfl, (blk_cell BK291.out 1).trans rfl⟩ (fun hHeld => ?_); refine with_tabW pantilelaw33_CoverCells.tab16 pantilelaw33_CoverCells.bits16 (fun HT_ HW_ => ?_)
                 generalize wc.drew = w78 at HO_5 HO_304000 BK291 BK303 HB hHeld ⊢
                 refine pure_ (i := 0) (N := some 119) (v := ?_) (a' := ?_) #[Y,O,O,O,O,O,O,O,O,O] rfl rfl (any_of HT_.out (by kernel_rfl)) (fun _ _ _ h => h) (Or.inl ⟨by rfl, ?_⟩) ?_ ?_
                 rotate_left
                 ·intro w'
                  go_simp
                  with_reducible rfl
                 rotate_left
                 ·simp only [Act.put, lsA, ls0, ls1, i64_w, i32_w]
                  rfl
                 refine pure_ (i := 6) (N := some 125) (v := ?_) (a' := ?_) #[Y,O,O,O,O,O,Y,O,O,O] rfl rfl (any_of HT_.out (by kernel_rfl)) (fun _ _ _ h => h) (Or.inl ⟨by rfl, ?_⟩) ?_ ?_
                 rotate_left
                 ·intro w'
                  go_simp
                  with_reducible rfl
                 rotate_left
                 ·simp only [Act.put, lsA, ls0, ls1, i64_w, i32_w]
                  rfl
                 refine pure_ (i := 7) (N := some 126) (v := ?_) (a' := ?_) #[Y,O,O,O,O,O,Y,Y,O,O] rfl rfl (any_of HT_.out (by kernel_rfl)) (fun _ _ _ h => h) (Or.inl ⟨by rfl, ?_⟩) ?_ ?_
                 rotate_left
                 ·intro w'
                  go_simp
                  with_reducible rfl
                 rotate_left
                 ·simp only [Act.put, lsA, ls0, ls1, i64_w, i32_w]
                  rfl
                 refine take_ (i := 1) (N := some 120) (v := ?_) (a' := ?_) #[Y,Y,O,O,O,O,Y,Y,O,O] rfl rfl (take_ofW HT_.out HW_.out (by kernel_rfl)) (fun _ _ _ h => h) (Or.inl ⟨by rfl, ?_⟩) hHeld ?_ ?_
                 rotate_left
                 ·rintro w' ⟨s0, s1⟩
                  go_simp
                  with_reducible rfl
                 rotate_left
                 ·simp only [Act.put, lsA, ls0, ls1, i64_w, i32_w]
                  rfl
                 refine pure_ (i := 2) (N := some 121) (v := ?_) (a' := ?_) #[Y,Y,Y,O,O,O,Y,Y,O,O] rfl rfl (any_of HT_.out (by kernel_rfl)) (fun _ _ _ h => h) (Or.inl ⟨by rfl, ?_⟩) ?_ ?_
                 rotate_left
                 ·intro w'
                  go_simp
                  with_reducible rfl
                 rotate_left
                 ·simp only [Act.put, lsA, ls0, ls1, i64_w, i32_w]
                  rfl
                 refine take_ (i := 5) (N := some 124) (v := ?_) (a' := ?_) #[Y,Y,Y,O,O,Y,Y,Y,O,O] rfl rfl (take_ofW HT_.out HW_.out (by kernel_rfl)) (fun _ _ _ h => h) (Or.inl ⟨by rfl, ?_⟩) hHeld ?_ ?_
                 rotate_left
                 ·rintro w' ⟨s0, s1⟩
                  go_simp
                  with_reducible rfl
                 rotate_left
                 ·simp only [Act.put, lsA, ls0, ls1, i64_w, i32_w]
                  rfl
                 refine one_ (i := 3) (N := some 122) #[Y,Y,Y,Y,O,Y,Y,Y,O,O] rfl rfl (one_of HT_.out (by kernel_rfl)) (by decide) (fun K hK => ?_)
                 refine Kd.R_make_step (Kd.int .u64) _ 30 (by rfl) (N := 122) rfl 22 _ _ rfl (l0_0.length : Int) rfl rfl Try.underlying22 (.int .u64 0) 8 info30 rfl (by decide) (by omega) 0 (ok := fun _ => True) (okp := fun _ => True) rfl (fun _ hk => hk) trivial (of_decide_eq_true (by first | (with_reducible assumption) | assumption)) (Nat.le_trans (Nat.mul_le_mul_right _ (of_decide_eq_true (by first | (with_reducible assumption) | assumption) : (l0_0.length : Int).toNat ≤ 35184372088832)) (by omega)) (Below.refl _ _) (Nat.le_refl _) ?_
                 intro v312 w79 ho80 hb hg_ hnew_
                 clear hg_ hnew_
                 (first | rw [← Ny311.out] at ho80 | (simp only [Int.reduceToNat] at ho80; rw [← Ny311.out] at ho80))
                 have n0_ := Aside0.mk (Kd.N_elder' (by (with_reducible repeat (first | apply Kd.N_alloc | apply Kd.N_drewN | apply Kd.N_drew)); exact HO_5.out) (Kd.R_base ho80) hb)
                 have n1_ := Aside0.mk (Kd.R_elder' (by (with_reducible repeat (first | apply Kd.R_alloc | apply Kd.R_drewN | apply Kd.R_drew)); exact HO_304000.out) (Kd.R_base ho80) hb)
                 have n2_ := Aside0.mk (Kd.R_lower (Kd.R_new' ho80 (Kd.R_lt (by (with_reducible repeat (first | apply Kd.R_alloc | apply Kd.R_drewN | apply Kd.R_drew)); exact HO_304000.out))) (below_size (by repeat (first | (with_reducible first | exact HB.out | apply below_alloc | apply pw_below_drewN | apply below_drew1 | refine below_set ?_ GE291.out | refine below_set ?_ GE303.out) | exact HB.out))))
                 have n3_ := Aside0.mk (blk_below (g := gb291) (o := .cells #[.slice A0_0 l0_0.length c0_0, .slice A0_1 l0_1.length c0_1] 32 (0, 0)) (by (with_reducible repeat (first | refine blk_drewN ?_ _ | refine blk_drew ?_ | refine blk_alloc ?_ _)); exact BK291.out) hb)
                 have n4_ := Aside0.mk (blk_below (g := gb303) (o := .cells #[.slice Ao54 t298.length co54, .int .i64 t301] 89 (0, 0)) (by (with_reducible repeat (first | refine blk_drewN ?_ _ | refine blk_drew ?_ | refine blk_alloc ?_ _)); exact BK303.out) hb)
                 have n5_ := Aside0.mk (below_step (by repeat (first | (with_reducible first | exact HB.out | apply below_alloc | apply pw_below_drewN | apply below_drew1 | refine below_set ?_ GE291.out | refine below_set ?_ GE303.out) | exact HB.out)) hb)
                 clear HO_5
                 clear HO_304000
                 clear BK291
                 clear BK303
                 clear HB
                 have HO_5 := n0_
                 have HO_304000 := n1_
                 have HO313 := n2_
                 have BK291 := n3_
                 have BK303 := n4_
                 have HB := n5_
                 clear n0_ n1_ n2_ n3_ n4_ n5_
                 clear hb ho80
                 obtain ⟨Ao81, co81, eo81⟩ := Kd.R_slice HO313.out
                 (first | subst eo81 | (injection eo81 with f1_ f2_ f3_; have f4_ := f1_.symm; have f5_ := f3_.symm; clear f1_ f2_ f3_; subst f4_; subst f5_))
                 refine hK.out _ _ ⟨(blk_cell BK291.out 0).trans rfl, (blk_cell BK291.out 1).trans rfl⟩ (fun hHeld => ?_)
                 clear hK K
                 refine norm_ (a' := ?_) ?_ ?_
                 rotate_left
                 ·show Act.put _ (some 122) _ = _
                  simp only [Act.put, lsA, ls0, ls1, i64_w, i32_w]
                  rfl
                 refine pure_ (i := 4) (N := some 123) (v := ?_) (a' := ?_) #[Y,Y,Y,Y,Y,Y,Y,Y,O,O] rfl rfl (any_of HT_.out (by kernel_rfl)) (fun _ _ _ h => h) (Or.inl ⟨by rfl, ?_⟩) ?_ ?_
                 rotate_left
                 ·intro w'
                  go_simp
                  with_reducible rfl
                 rotate_left
                 ·simp only [Act.put, lsA, ls0, ls1, i64_w, i32_w]
                  rfl
                 refine one_ (i := 8) (N := some 127) #[Y,Y,Y,Y,Y,Y,Y,Y,Y,O] rfl rfl (one_of HT_.out (by kernel_rfl)) (by decide) (fun K hK => ?_)
                 refine goes_ Try.func69 (by kernel_rfl) rfl #[.agg #[.slice Ao81 y311.length co81, .int .i64 63], .agg #[.slice A0_0 l0_0.length c0_0, .slice A0_1 l0_1.length c0_1], .int .i64 ji74] (by rfl) rfl rfl (by (try simp only [List.map_toArray, List.map_cons, List.map_nil]); first | done | (simp only [hji74]; rfl) | rfl | (simp only [List.length_drop, List.length_take]; rfl)) ?_
                 with_reducible refine (pantileref33_Cells.calls kj47 (fun k_ => some k_ = (.slice Ao81 y311.length co81 : Value).ownBlock) _ _ y311 63 _ _ l0_0 _ _ l0_1 ji74 t314 _ ?side1 ?side2 ?side3 ?side4 ?side5 A75.out).mono ?_
                 (case side1 => exact Kd.R_V (Kd.R_tight rfl (Kd.R_types (Kd.R_types (Kd.R_apart' (HO313.out) (Kd.N_typed HO_5.out) (by decide)) BK291.out (by decide)) BK303.out (by decide))))
                 (case side2 => repeat (first | exact (Kd.C_below HR0_0.out HB.out) | (with_reducible refine Kd.C_alloc ?_ _) | (with_reducible refine Kd.C_drewN ?_ _) | (with_reducible refine Kd.C_drew ?_)))
                 (case side3 => exact HC0_0.out)
                 (case side4 => repeat (first | exact (Kd.C_below HR0_1.out HB.out) | (with_reducible refine Kd.C_alloc ?_ _) | (with_reducible refine Kd.C_drewN ?_ _) | (with_reducible refine Kd.C_drew ?_)))
                 (case side5 => exact HC0_1.out)
                 rintro e w82 ⟨v315, rfl, ho0, hb⟩
                 refine ⟨_, rfl, ?_⟩
                 have n0_ := Aside0.mk (Kd.N_elder' (by (with_reducible repeat (first | apply Kd.N_alloc | apply Kd.N_drewN | apply Kd.N_drew)); exact HO_5.out) (Kd.N_base ho0) hb)
                 have n1_ := Aside0.mk (Kd.R_below (by (with_reducible repeat (first | apply Kd.R_alloc | apply Kd.R_drewN | apply Kd.R_drew)); exact HO_304000.out) hb)
                 have n2_ := Aside0.mk (Kd.R_below (by (with_reducible repeat (first | apply Kd.R_alloc | apply Kd.R_drewN | apply Kd.R_drew)); exact HO313.out) hb)
                 have n3_ := Aside0.mk (Kd.N_lower (Kd.N_mono (ok' := fun k_ => some k_ ≠ (v295 : Value).ownBlock ∧ some k_ ≠ (.slice Ao54 t298.length co54 : Value).ownBlock ∧ k_ ≠ gb291 ∧ k_ ≠ gb303) ho0 (fun k_ hk_ => ⟨Or.elim hk_ (fun hs_ => ((Kd.R_types (Kd.R_types (Kd.R_apart' (HO313.out) (Kd.N_typed HO_5.out) (by decide)) BK291.out (by decide)) BK303.out (by decide)).1 k_ hs_.symm).1.1.2) (fun hn_ => (Kd.fresh' (Kd.N_lt (by (with_reducible repeat (first | apply Kd.N_alloc | apply Kd.N_drewN | apply Kd.N_drew)); exact HO_5.out)) k_ hn_)), Or.elim hk_ (fun hs_ => ((Kd.R_types (Kd.R_types (Kd.R_apart' (HO313.out) (Kd.N_typed HO_5.out) (by decide)) BK291.out (by decide)) BK303.out (by decide)).1 k_ hs_.symm).1.1.1.2) (fun hn_ => (Kd.fresh' (Kd.R_lt (by (with_reducible repeat (first | apply Kd.R_alloc | apply Kd.R_drewN | apply Kd.R_drew)); exact HO_304000.out)) k_ hn_)), Or.elim hk_ (fun hs_ => ((Kd.R_types (Kd.R_types (Kd.R_apart' (HO313.out) (Kd.N_typed HO_5.out) (by decide)) BK291.out (by decide)) BK303.out (by decide)).1 k_ hs_.symm).1.2) (fun hn_ => (Kd.freshB (g := gb291) (o := .cells #[.slice A0_0 l0_0.length c0_0, .slice A0_1 l0_1.length c0_1] 32 (0, 0)) (by (with_reducible repeat (first | refine blk_drewN ?_ _ | refine blk_drew ?_ | refine blk_alloc ?_ _)); exact BK291.out) k_ hn_)), Or.elim hk_ (fun hs_ => ((Kd.R_types (Kd.R_types (Kd.R_apart' (HO313.out) (Kd.N_typed HO_5.out) (by decide)) BK291.out (by decide)) BK303.out (by decide)).1 k_ hs_.symm).2) (fun hn_ => (Kd.freshB (g := gb303) (o := .cells #[.slice Ao54 t298.length co54, .int .i64 t301] 89 (0, 0)) (by (with_reducible repeat (first | refine blk_drewN ?_ _ | refine blk_drew ?_ | refine blk_alloc ?_ _)); exact BK303.out) k_ hn_))⟩)) (below_size (by repeat (first | (with_reducible first | exact HB.out | apply below_alloc | apply pw_below_drewN | apply below_drew1 | refine below_set ?_ GE291.out | refine below_set ?_ GE303.out) | exact HB.out))))
                 have n4_ := Aside0.mk (blk_below (g := gb291) (o := .cells #[.slice A0_0 l0_0.length c0_0, .slice A0_1 l0_1.length c0_1] 32 (0, 0)) (by (with_reducible repeat (first | refine blk_drewN ?_ _ | refine blk_drew ?_ | refine blk_alloc ?_ _)); exact BK291.out) hb)
                 have n5_ := Aside0.mk (blk_below (g := gb303) (o := .cells #[.slice Ao54 t298.length co54, .int .i64 t301] 89 (0, 0)) (by (with_reducible repeat (first | refine blk_drewN ?_ _ | refine blk_drew ?_ | refine blk_alloc ?_ _)); exact BK303.out) hb)
                 have n6_ := Aside0.mk (below_step (by repeat (first | (with_reducible first | exact HB.out | apply below_alloc | apply pw_below_drewN | apply below_drew1 | refine below_set ?_ GE291.out | refine below_set ?_ GE303.out) | exact HB.out)) hb)
                 clear HO_5
                 clear HO_304000
                 clear HO313
                 clear BK291
                 clear BK303
                 clear HB
                 have HO_5 := n0_
                 have HO_304000 := n1_
                 have HO313 := n2_
                 have HO316 := n3_
                 have BK291 := n4_
                 have BK303 := n5_
                 have HB := n6_
                 clear n0_ n1_ n2_ n3_ n4_ n5_ n6_
                 (try clear hb)
                 (try clear hb2)
                 (try clear hk)
                 (try clear hi)
                 (try clear ho0)
                 refine hK.out _ _ ⟨(blk_cell BK291.out 0).trans rfl, (blk_cell BK291.out 1).trans rfl⟩ (fun hHeld => ?_)
                 clear hK K
                 refine norm_ (a' := ?_) ?_ ?_
                 rotate_left
                 ·show Act.put _ (some 127) _ = _
                  simp only [Act.put, lsA, ls0, ls1, i64_w, i32_w]
                  rfl
                 refine pure_ (i := 9) (N := some 10) (v := ?_) (a' := ?_) #[Y,Y,Y,Y,Y,Y,Y,Y,Y,Y] rfl rfl (any_of HT_.out (by kernel_rfl)) (fun _ _ _ h => h) (Or.inl ⟨by rfl, ?_⟩) ?_ ?_
                 rotate_left
                 ·intro w'
                  go_simp
                  with_reducible rfl
                 rotate_left
                 ·simp only [Act.put, lsA, ls0, ls1, i64_w, i32_w]
                  rfl
                 refine done_ (done_of HT_.out (by kernel_rfl)) ?_
                 obtain ⟨Ao83, co83, eo83⟩ := Kd.N_slice HO316.out
                 subst eo83
                 obtain ⟨Ao84, co84, eo84⟩ := Kd.N_slice HO_5.out
                 subst eo84
                 try go_wp2
                 go_ret
                 exact ⟨by first | rfl | (simp [errW_none, errW_some] <;> rfl) | (simp only [← hji74]; first | rfl | (simp [errW_none, errW_some] <;> rfl)) | (simp [*, errW_none, errW_some] <;> rfl), by repeat (first | (with_reducible first | exact HB.out | apply below_alloc | apply pw_below_drewN | apply below_drew1 | refine below_set ?_ GE291.out | refine below_set ?_ GE303.out) | exact HB.out)⟩
                ·rw [if_neg c77] at H
                 have c77b0 : ((t294.length : Int) == 0) = false := beq_eq_false_iff_ne.mpr c77
                 have c77b1 : ((t294.length : Int) != 0) = true := bne_iff_ne.mpr c77
                 have c77b2 : ¬ (t294 = []) := fun h_ => c77 (by rw [h_]; rfl)
                 exact Bool.noConfusion ((Option.some.inj H).trans HRT.out)
               ·rw [if_neg c76] at H
                have c76b0 : decide (a1 < (t314.length : Int)) = false := decide_eq_false c76
                clear c76
                have HC85 := Aside0.mk H
                clear H
                try go_wp2
                have n0_ := Aside0.mk (Kd.N_drew HO_5.out)
                have n1_ := Aside0.mk (Kd.R_drew HO_304000.out)
                have n2_ := Aside0.mk (blk_drew BK291.out)
                have n3_ := Aside0.mk (blk_drew BK303.out)
                have n4_ := Aside0.mk (below_drew1 HB.out)
                clear HO_5
                clear HO_304000
                clear BK291
                clear BK303
                clear HB
                have HO_5 := n0_
                have HO_304000 := n1_
                have BK291 := n2_
                have BK303 := n3_
                have HB := n4_
                clear n0_ n1_ n2_ n3_ n4_
                refine start_ (n := 10) (S := fun w' => w'.cell? ⟨gb291, 0, none⟩ = some (.slice A0_0 l0_0.length c0_0) ∧ w'.cell? ⟨gb291, 1, none⟩ = some (.slice A0_1 l0_1.length c0_1)) (ds := []) #[O,O,O,O,O,O,O,O,O,O] (by kernel_rfl) rfl rfl ⟨(blk_cell BK291.out 0).trans rfl, (blk_cell BK291.out 1).trans rfl⟩ (fun hHeld => ?_); refine with_tabW pantilelaw33_CoverCells.tab16 pantilelaw33_CoverCells.bits16 (fun HT_ HW_ => ?_)
                generalize wc.drew = w86 at HO_5 HO_304000 BK291 BK303 HB hHeld ⊢
                refine pure_ (i := 0) (N := some 119) (v := ?_) (a' := ?_) #[Y,O,O,O,O,O,O,O,O,O] rfl rfl (any_of HT_.out (by kernel_rfl)) (fun _ _ _ h => h) (Or.inl ⟨by rfl, ?_⟩) ?_ ?_
                rotate_left
                ·intro w'
                 go_simp
                 with_reducible rfl
                rotate_left
                ·simp only [Act.put, lsA, ls0, ls1, i64_w, i32_w]
                 rfl
                refine pure_ (i := 6) (N := some 125) (v := ?_) (a' := ?_) #[Y,O,O,O,O,O,Y,O,O,O] rfl rfl (any_of HT_.out (by kernel_rfl)) (fun _ _ _ h => h) (Or.inl ⟨by rfl, ?_⟩) ?_ ?_
                rotate_left
                ·intro w'
                 go_simp
                 with_reducible rfl
                rotate_left
                ·simp only [Act.put, lsA, ls0, ls1, i64_w, i32_w]
                 rfl
                refine pure_ (i := 7) (N := some 126) (v := ?_) (a' := ?_) #[Y,O,O,O,O,O,Y,Y,O,O] rfl rfl (any_of HT_.out (by kernel_rfl)) (fun _ _ _ h => h) (Or.inl ⟨by rfl, ?_⟩) ?_ ?_
                rotate_left
                ·intro w'
                 go_simp
                 with_reducible rfl
                rotate_left
                ·simp only [Act.put, lsA, ls0, ls1, i64_w, i32_w]
                 rfl
                refine take_ (i := 1) (N := some 120) (v := ?_) (a' := ?_) #[Y,Y,O,O,O,O,Y,Y,O,O] rfl rfl (take_ofW HT_.out HW_.out (by kernel_rfl)) (fun _ _ _ h => h) (Or.inl ⟨by rfl, ?_⟩) hHeld ?_ ?_
                rotate_left
                ·rintro w' ⟨s0, s1⟩
                 go_simp
                 with_reducible rfl
                rotate_left
                ·simp only [Act.put, lsA, ls0, ls1, i64_w, i32_w]
                 rfl
                refine pure_ (i := 2) (N := some 121) (v := ?_) (a' := ?_) #[Y,Y,Y,O,O,O,Y,Y,O,O] rfl rfl (any_of HT_.out (by kernel_rfl)) (fun _ _ _ h => h) (Or.inl ⟨by rfl, ?_⟩) ?_ ?_
                rotate_left
                ·intro w'
                 go_simp
                 with_reducible rfl
                rotate_left
                ·simp only [Act.put, lsA, ls0, ls1, i64_w, i32_w]
                 rfl
                refine take_ (i := 5) (N := some 124) (v := ?_) (a' := ?_) #[Y,Y,Y,O,O,Y,Y,Y,O,O] rfl rfl (take_ofW HT_.out HW_.out (by kernel_rfl)) (fun _ _ _ h => h) (Or.inl ⟨by rfl, ?_⟩) hHeld ?_ ?_
                rotate_left
                ·rintro w' ⟨s0, s1⟩
                 go_simp
                 with_reducible rfl
                rotate_left
                ·simp only [Act.put, lsA, ls0, ls1, i64_w, i32_w]
                 rfl
                refine one_ (i := 3) (N := some 122) #[Y,Y,Y,Y,O,Y,Y,Y,O,O] rfl rfl (one_of HT_.out (by kernel_rfl)) (by decide) (fun K hK => ?_)
                refine Kd.R_make_step (Kd.int .u64) _ 30 (by rfl) (N := 122) rfl 22 _ _ rfl (l0_0.length : Int) rfl rfl Try.underlying22 (.int .u64 0) 8 info30 rfl (by decide) (by omega) 0 (ok := fun _ => True) (okp := fun _ => True) rfl (fun _ hk => hk) trivial (of_decide_eq_true (by first | (with_reducible assumption) | assumption)) (Nat.le_trans (Nat.mul_le_mul_right _ (of_decide_eq_true (by first | (with_reducible assumption) | assumption) : (l0_0.length : Int).toNat ≤ 35184372088832)) (by omega)) (Below.refl _ _) (Nat.le_refl _) ?_
                intro v312 w87 ho88 hb hg_ hnew_
                clear hg_ hnew_
                (first | rw [← Ny311.out] at ho88 | (simp only [Int.reduceToNat] at ho88; rw [← Ny311.out] at ho88))
                have n0_ := Aside0.mk (Kd.N_elder' (by (with_reducible repeat (first | apply Kd.N_alloc | apply Kd.N_drewN | apply Kd.N_drew)); exact HO_5.out) (Kd.R_base ho88) hb)
                have n1_ := Aside0.mk (Kd.R_elder' (by (with_reducible repeat (first | apply Kd.R_alloc | apply Kd.R_drewN | apply Kd.R_drew)); exact HO_304000.out) (Kd.R_base ho88) hb)
                have n2_ := Aside0.mk (Kd.R_lower (Kd.R_new' ho88 (Kd.R_lt (by (with_reducible repeat (first | apply Kd.R_alloc | apply Kd.R_drewN | apply Kd.R_drew)); exact HO_304000.out))) (below_size (by repeat (first | (with_reducible first | exact HB.out | apply below_alloc | apply pw_below_drewN | apply below_drew1 | refine below_set ?_ GE291.out | refine below_set ?_ GE303.out) | exact HB.out))))
                have n3_ := Aside0.mk (blk_below (g := gb291) (o := .cells #[.slice A0_0 l0_0.length c0_0, .slice A0_1 l0_1.length c0_1] 32 (0, 0)) (by (with_reducible repeat (first | refine blk_drewN ?_ _ | refine blk_drew ?_ | refine blk_alloc ?_ _)); exact BK291.out) hb)
                have n4_ := Aside0.mk (blk_below (g := gb303) (o := .cells #[.slice Ao54 t298.length co54, .int .i64 t301] 89 (0, 0)) (by (with_reducible repeat (first | refine blk_drewN ?_ _ | refine blk_drew ?_ | refine blk_alloc ?_ _)); exact BK303.out) hb)
                have n5_ := Aside0.mk (below_step (by repeat (first | (with_reducible first | exact HB.out | apply below_alloc | apply pw_below_drewN | apply below_drew1 | refine below_set ?_ GE291.out | refine below_set ?_ GE303.out) | exact HB.out)) hb)
                clear HO_5
                clear HO_304000
                clear BK291
                clear BK303
                clear HB
                have HO_5 := n0_
                have HO_304000 := n1_
                have HO313 := n2_
                have BK291 := n3_
                have BK303 := n4_
                have HB := n5_
                clear n0_ n1_ n2_ n3_ n4_ n5_
                clear hb ho88
                obtain ⟨Ao89, co89, eo89⟩ := Kd.R_slice HO313.out
                (first | subst eo89 | (injection eo89 with f1_ f2_ f3_; have f4_ := f1_.symm; have f5_ := f3_.symm; clear f1_ f2_ f3_; subst f4_; subst f5_))
                refine hK.out _ _ ⟨(blk_cell BK291.out 0).trans rfl, (blk_cell BK291.out 1).trans rfl⟩ (fun hHeld => ?_)
                clear hK K
                refine norm_ (a' := ?_) ?_ ?_
                rotate_left
                ·show Act.put _ (some 122) _ = _
                 simp only [Act.put, lsA, ls0, ls1, i64_w, i32_w]
                 rfl
                refine pure_ (i := 4) (N := some 123) (v := ?_) (a' := ?_) #[Y,Y,Y,Y,Y,Y,Y,Y,O,O] rfl rfl (any_of HT_.out (by kernel_rfl)) (fun _ _ _ h => h) (Or.inl ⟨by rfl, ?_⟩) ?_ ?_
                rotate_left
                ·intro w'
                 go_simp
                 with_reducible rfl
                rotate_left
                ·simp only [Act.put, lsA, ls0, ls1, i64_w, i32_w]
                 rfl
                refine one_ (i := 8) (N := some 127) #[Y,Y,Y,Y,Y,Y,Y,Y,Y,O] rfl rfl (one_of HT_.out (by kernel_rfl)) (by decide) (fun K hK => ?_)
                refine goes_ Try.func69 (by kernel_rfl) rfl #[.agg #[.slice Ao89 y311.length co89, .int .i64 63], .agg #[.slice A0_0 l0_0.length c0_0, .slice A0_1 l0_1.length c0_1], .int .i64 ji74] (by rfl) rfl rfl (by (try simp only [List.map_toArray, List.map_cons, List.map_nil]); first | done | (simp only [hji74]; rfl) | rfl | (simp only [List.length_drop, List.length_take]; rfl)) ?_
                with_reducible refine (pantileref33_Cells.calls kj47 (fun k_ => some k_ = (.slice Ao89 y311.length co89 : Value).ownBlock) _ _ y311 63 _ _ l0_0 _ _ l0_1 ji74 t314 _ ?side1 ?side2 ?side3 ?side4 ?side5 A75.out).mono ?_
                (case side1 => exact Kd.R_V (Kd.R_tight rfl (Kd.R_types (Kd.R_types (Kd.R_apart' (HO313.out) (Kd.N_typed HO_5.out) (by decide)) BK291.out (by decide)) BK303.out (by decide))))
                (case side2 => repeat (first | exact (Kd.C_below HR0_0.out HB.out) | (with_reducible refine Kd.C_alloc ?_ _) | (with_reducible refine Kd.C_drewN ?_ _) | (with_reducible refine Kd.C_drew ?_)))
                (case side3 => exact HC0_0.out)
                (case side4 => repeat (first | exact (Kd.C_below HR0_1.out HB.out) | (with_reducible refine Kd.C_alloc ?_ _) | (with_reducible refine Kd.C_drewN ?_ _) | (with_reducible refine Kd.C_drew ?_)))
                (case side5 => exact HC0_1.out)
                rintro e w90 ⟨v315, rfl, ho0, hb⟩
                refine ⟨_, rfl, ?_⟩
                have n0_ := Aside0.mk (Kd.N_elder' (by (with_reducible repeat (first | apply Kd.N_alloc | apply Kd.N_drewN | apply Kd.N_drew)); exact HO_5.out) (Kd.N_base ho0) hb)
                have n1_ := Aside0.mk (Kd.R_below (by (with_reducible repeat (first | apply Kd.R_alloc | apply Kd.R_drewN | apply Kd.R_drew)); exact HO_304000.out) hb)
                have n2_ := Aside0.mk (Kd.R_below (by (with_reducible repeat (first | apply Kd.R_alloc | apply Kd.R_drewN | apply Kd.R_drew)); exact HO313.out) hb)
                have n3_ := Aside0.mk (Kd.N_lower (Kd.N_mono (ok' := fun k_ => some k_ ≠ (v295 : Value).ownBlock ∧ some k_ ≠ (.slice Ao54 t298.length co54 : Value).ownBlock ∧ k_ ≠ gb291 ∧ k_ ≠ gb303) ho0 (fun k_ hk_ => ⟨Or.elim hk_ (fun hs_ => ((Kd.R_types (Kd.R_types (Kd.R_apart' (HO313.out) (Kd.N_typed HO_5.out) (by decide)) BK291.out (by decide)) BK303.out (by decide)).1 k_ hs_.symm).1.1.2) (fun hn_ => (Kd.fresh' (Kd.N_lt (by (with_reducible repeat (first | apply Kd.N_alloc | apply Kd.N_drewN | apply Kd.N_drew)); exact HO_5.out)) k_ hn_)), Or.elim hk_ (fun hs_ => ((Kd.R_types (Kd.R_types (Kd.R_apart' (HO313.out) (Kd.N_typed HO_5.out) (by decide)) BK291.out (by decide)) BK303.out (by decide)).1 k_ hs_.symm).1.1.1.2) (fun hn_ => (Kd.fresh' (Kd.R_lt (by (with_reducible repeat (first | apply Kd.R_alloc | apply Kd.R_drewN | apply Kd.R_drew)); exact HO_304000.out)) k_ hn_)), Or.elim hk_ (fun hs_ => ((Kd.R_types (Kd.R_types (Kd.R_apart' (HO313.out) (Kd.N_typed HO_5.out) (by decide)) BK291.out (by decide)) BK303.out (by decide)).1 k_ hs_.symm).1.2) (fun hn_ => (Kd.freshB (g := gb291) (o := .cells #[.slice A0_0 l0_0.length c0_0, .slice A0_1 l0_1.length c0_1] 32 (0, 0)) (by (with_reducible repeat (first | refine blk_drewN ?_ _ | refine blk_drew ?_ | refine blk_alloc ?_ _)); exact BK291.out) k_ hn_)), Or.elim hk_ (fun hs_ => ((Kd.R_types (Kd.R_types (Kd.R_apart' (HO313.out) (Kd.N_typed HO_5.out) (by decide)) BK291.out (by decide)) BK303.out (by decide)).1 k_ hs_.symm).2) (fun hn_ => (Kd.freshB (g := gb303) (o := .cells #[.slice Ao54 t298.length co54, .int .i64 t301] 89 (0, 0)) (by (with_reducible repeat (first | refine blk_drewN ?_ _ | refine blk_drew ?_ | refine blk_alloc ?_ _)); exact BK303.out) k_ hn_))⟩)) (below_size (by repeat (first | (with_reducible first | exact HB.out | apply below_alloc | apply pw_below_drewN | apply below_drew1 | refine below_set ?_ GE291.out | refine below_set ?_ GE303.out) | exact HB.out))))
                have n4_ := Aside0.mk (blk_below (g := gb291) (o := .cells #[.slice A0_0 l0_0.length c0_0, .slice A0_1 l0_1.length c0_1] 32 (0, 0)) (by (with_reducible repeat (first | refine blk_drewN ?_ _ | refine blk_drew ?_ | refine blk_alloc ?_ _)); exact BK291.out) hb)
                have n5_ := Aside0.mk (blk_below (g := gb303) (o := .cells #[.slice Ao54 t298.length co54, .int .i64 t301] 89 (0, 0)) (by (with_reducible repeat (first | refine blk_drewN ?_ _ | refine blk_drew ?_ | refine blk_alloc ?_ _)); exact BK303.out) hb)
                have n6_ := Aside0.mk (below_step (by repeat (first | (with_reducible first | exact HB.out | apply below_alloc | apply pw_below_drewN | apply below_drew1 | refine below_set ?_ GE291.out | refine below_set ?_ GE303.out) | exact HB.out)) hb)
                clear HO_5
                clear HO_304000
                clear HO313
                clear BK291
                clear BK303
                clear HB
                have HO_5 := n0_
                have HO_304000 := n1_
                have HO313 := n2_
                have HO316 := n3_
                have BK291 := n4_
                have BK303 := n5_
                have HB := n6_
                clear n0_ n1_ n2_ n3_ n4_ n5_ n6_
                (try clear hb)
                (try clear hb2)
                (try clear hk)
                (try clear hi)
                (try clear ho0)
                refine hK.out _ _ ⟨(blk_cell BK291.out 0).trans rfl, (blk_cell BK291.out 1).trans rfl⟩ (fun hHeld => ?_)
                clear hK K
                refine norm_ (a' := ?_) ?_ ?_
                rotate_left
                ·show Act.put _ (some 127) _ = _
                 simp only [Act.put, lsA, ls0, ls1, i64_w, i32_w]
                 rfl
                refine pure_ (i := 9) (N := some 10) (v := ?_) (a' := ?_) #[Y,Y,Y,Y,Y,Y,Y,Y,Y,Y] rfl rfl (any_of HT_.out (by kernel_rfl)) (fun _ _ _ h => h) (Or.inl ⟨by rfl, ?_⟩) ?_ ?_
                rotate_left
                ·intro w'
                 go_simp
                 with_reducible rfl
                rotate_left
                ·simp only [Act.put, lsA, ls0, ls1, i64_w, i32_w]
                 rfl
                refine done_ (done_of HT_.out (by kernel_rfl)) ?_
                obtain ⟨Ao91, co91, eo91⟩ := Kd.N_slice HO316.out
                subst eo91
                go_upto_region 19 with (fail)
                go_cut [147] (fun v147 wc => ∃ (kq : Nat) (x147_84 : Bool), v147 = .bool x147_84 ∧ Aside0 (pantilelaw33_CoverCells.j3 kq t294 t314 x147_84 = some r) ∧ Aside0 (kq ≤ kj47) ∧ Aside0 (Kd.N k89 89 wc w.heap.size (fun k_ => some k_ ≠ ((.slice Ao91 t314.length co91) : Value).ownBlock ∧ some k_ ≠ ((.slice Ao54 t298.length co54) : Value).ownBlock ∧ k_ ≠ gb291 ∧ k_ ≠ gb303) v295 t294) ∧ Aside0 (Kd.N k94 94 wc w.heap.size (fun k_ => some k_ ≠ (v295 : Value).ownBlock ∧ some k_ ≠ ((.slice Ao54 t298.length co54) : Value).ownBlock ∧ k_ ≠ gb291 ∧ k_ ≠ gb303) (.slice Ao91 t314.length co91) t314) ∧ Aside0 (Kd.R (Kd.int .u64) 30 wc w.heap.size (fun _ => True) (.slice Ao54 t298.length co54) t298) ∧ Aside0 (wc.heap[gb291]? = some (.cells #[(.slice A0_0 l0_0.length c0_0), (.slice A0_1 l0_1.length c0_1)] 32 (0, 0))) ∧ Aside0 (wc.heap[gb303]? = some (.cells #[(.slice Ao54 t298.length co54), .int .i64 t301] 89 (0, 0))) ∧ Aside0 (Below w.heap.size w wc))
                case first =>
                 have H := HC85.out
                 clear HC85
                 by_cases c92 : t297 = 0
                 ·rw [if_pos c92] at H
                  have c92b0 : (t297 == 0) = true := beq_iff_eq.mpr c92
                  have c92b1 : (t297 != 0) = false := bne_eq_false_iff_eq.mpr c92
                  clear c92
                  (first | rw [c92b0] | (simp only [i64_w, i32_w]; rw [c92b0]) | skip)
                  have H' := Aside0.mk H
                  clear H
                  obtain ⟨Ao93, co93, eo93⟩ := Kd.N_slice HO_5.out
                  subst eo93
                  go_wp2
                  go_meet
                  case rel => exact ⟨_, (((t294.length : Int) != (t314.length : Int))), (by first | rfl | (simp; done) | (simp [*]; done)), H', ⟨by have := HJ4.out; have := HJ13.out; have := HJ47.out; first | omega | exact Nat.le_refl _⟩, ⟨by (with_reducible repeat (first | apply Kd.N_alloc | apply Kd.N_drewN | apply Kd.N_drew)); exact Kd.N_mono HO_5.out (fun _ hk => ⟨hk.2, ⟨hk.1.1.1, ⟨hk.1.1.2.1, hk.1.1.2.2⟩⟩⟩)⟩, ⟨by (with_reducible repeat (first | apply Kd.N_alloc | apply Kd.N_drewN | apply Kd.N_drew)); exact HO316.out⟩, ⟨by (with_reducible repeat (first | apply Kd.R_alloc | apply Kd.R_drewN | apply Kd.R_drew)); exact Kd.R_mono HO_304000.out (fun _ hk => trivial)⟩, ⟨by (with_reducible repeat (first | refine blk_drewN ?_ _ | refine blk_drew ?_ | refine blk_alloc ?_ _)); exact BK291.out⟩, ⟨by (with_reducible repeat (first | refine blk_drewN ?_ _ | refine blk_drew ?_ | refine blk_alloc ?_ _)); exact BK303.out⟩, ⟨by repeat (first | (with_reducible first | exact HB.out | apply below_alloc | apply pw_below_drewN | apply below_drew1 | refine below_set ?_ GE291.out | refine below_set ?_ GE303.out) | exact HB.out)⟩⟩
                 ·rw [if_neg c92] at H
                  have c92b0 : (t297 == 0) = false := beq_eq_false_iff_ne.mpr c92
                  have c92b1 : (t297 != 0) = true := bne_iff_ne.mpr c92
                  (first | rw [c92b0] | (simp only [i64_w, i32_w]; rw [c92b0]) | skip)
                  have H' := Aside0.mk H
                  clear H
                  go_wp2
                  go_meet
                  case rel => exact ⟨_, (true), (by first | rfl | (simp; done) | (simp [*]; done)), H', ⟨by have := HJ4.out; have := HJ13.out; have := HJ47.out; first | omega | exact Nat.le_refl _⟩, ⟨by (with_reducible repeat (first | apply Kd.N_alloc | apply Kd.N_drewN | apply Kd.N_drew)); exact Kd.N_mono HO_5.out (fun _ hk => ⟨hk.2, ⟨hk.1.1.1, ⟨hk.1.1.2.1, hk.1.1.2.2⟩⟩⟩)⟩, ⟨by (with_reducible repeat (first | apply Kd.N_alloc | apply Kd.N_drewN | apply Kd.N_drew)); exact HO316.out⟩, ⟨by (with_reducible repeat (first | apply Kd.R_alloc | apply Kd.R_drewN | apply Kd.R_drew)); exact Kd.R_mono HO_304000.out (fun _ hk => trivial)⟩, ⟨by (with_reducible repeat (first | refine blk_drewN ?_ _ | refine blk_drew ?_ | refine blk_alloc ?_ _)); exact BK291.out⟩, ⟨by (with_reducible repeat (first | refine blk_drewN ?_ _ | refine blk_drew ?_ | refine blk_alloc ?_ _)); exact BK303.out⟩, ⟨by repeat (first | (with_reducible first | exact HB.out | apply below_alloc | apply pw_below_drewN | apply below_drew1 | refine below_set ?_ GE291.out | refine below_set ?_ GE303.out) | exact HB.out)⟩⟩
                case rest =>
                 clear HC85
                 try clear c2; try clear p2; try clear c3; try clear c4; try clear c5; try clear c6; try clear c7; try clear c9; try clear c22; try clear c23; try clear c26; try clear c28; try clear c29; try clear c29b0; try clear c29b1; try clear c29b2; try clear c30; try clear c30b0; try clear c30b1; try clear c30b2; try clear c31; try clear c31b0; try clear c31b1; try clear c31b2; try clear c32; try clear c32b0; try clear c32b1; try clear c32b2; try clear c36; try clear c39; try clear c40; try clear c46; try clear c55; try clear c62; try clear c62b0; try clear c62b1; try clear c63; try clear c63b0; try clear c63b1; try clear c67; try clear c68; try clear c69; try clear c71; try clear c72; try clear c72b0; try clear c72b1; try clear c73; try clear c73b0; try clear c73b1; try clear c76; try clear c76b0; try clear c77; try clear c77b0; try clear c77b1; try clear c77b2; try clear c92; try clear c92b0; try clear c92b1; try clear hcz33_0; try clear hcz33_1; try clear hcz35_0; try clear hcz35_1; try clear hcz40_0; try clear hcz40_1; try clear hcz41_0; try clear hcz41_1; try clear hcz43_0; try clear hcz43_1; try clear hcz46_0; try clear hcz46_1; try clear hcz49_0; try clear hcz49_1; try clear hcz51_0; try clear hcz51_1; try clear hcz56_0; try clear hcz56_1; try clear hcz57_0; try clear hcz57_1; try clear hcz59_0; try clear hcz59_1; try clear hcz61_0; try clear hcz61_1; try clear hfz33_0; try clear hfz33_1; try clear hfz35_0; try clear hfz35_1; try clear hfz40_0; try clear hfz40_1; try clear hfz41_0; try clear hfz41_1; try clear hfz43_0; try clear hfz43_1; try clear hfz46_0; try clear hfz46_1; try clear hfz49_0; try clear hfz49_1; try clear hfz51_0; try clear hfz51_1; try clear hfz56_0; try clear hfz56_1; try clear hfz57_0; try clear hfz57_1; try clear hfz59_0; try clear hfz59_1; try clear hfz61_0; try clear hfz61_1; try clear p2
                 obtain ⟨kq, x147_84, rfl, HA, HJ84, HO_5, HO_10, HO_304000, BK291, BK303, HB⟩ := hcut
                 cases kq with
                 | zero => exact absurd HA.out (by simp [pantilelaw33_CoverCells.j3])
                 | succ kj84 =>
                  have H := HA.out
                  clear HA
                  simp only [pantilelaw33_CoverCells.j3] at H
                  by_cases c94 : x147_84 = true
                  ·subst c94
                   have H1 : (some false) = some r := by rw [if_pos rfl] at H; exact H
                   clear H
                   have H := H1
                   clear H1
                   exact Bool.noConfusion ((Option.some.inj H).trans HRT.out)
                  ·replace c94 := Bool.eq_false_iff.mpr c94
                   subst c94
                   have H1 : (pantilelaw33_CoverCells.l0 kj84 t294 t314 0) = some r := by rw [if_neg (show ¬ (false = true) by decide)] at H; exact H
                   clear H
                   have H := H1
                   clear H1
                   have H' := Aside0.mk H
                   clear H
                   go_wp2
                   go_loopg [11] kj84 (fun kq v11 w' => ∃ (x11_5 : Int), v11 = .int .i64 x11_5 ∧ Aside0 (pantilelaw33_CoverCells.l0 kq t294 t314 x11_5 = some r) ∧ Aside0 (kq ≤ kj84) ∧ Aside0 (Kd.N k89 89 w' w.heap.size (fun k_ => some k_ ≠ ((.slice Ao91 t314.length co91) : Value).ownBlock ∧ some k_ ≠ ((.slice Ao54 t298.length co54) : Value).ownBlock ∧ k_ ≠ gb291 ∧ k_ ≠ gb303) v295 t294) ∧ Aside0 (Kd.N k94 94 w' w.heap.size (fun k_ => some k_ ≠ (v295 : Value).ownBlock ∧ some k_ ≠ ((.slice Ao54 t298.length co54) : Value).ownBlock ∧ k_ ≠ gb291 ∧ k_ ≠ gb303) (.slice Ao91 t314.length co91) t314) ∧ Aside0 (Kd.R (Kd.int .u64) 30 w' w.heap.size (fun _ => True) (.slice Ao54 t298.length co54) t298) ∧ Aside0 (w'.heap[gb291]? = some (.cells #[(.slice A0_0 l0_0.length c0_0), (.slice A0_1 l0_1.length c0_1)] 32 (0, 0))) ∧ Aside0 (w'.heap[gb303]? = some (.cells #[(.slice Ao54 t298.length co54), .int .i64 t301] 89 (0, 0))) ∧ Aside0 (Below w.heap.size w w'))
                   case atStart => exact ⟨(0), (by first | rfl | (simp; done) | (simp [*]; done)), H', ⟨Nat.le_refl _⟩, ⟨by (with_reducible repeat (first | apply Kd.N_alloc | apply Kd.N_drewN | apply Kd.N_drew)); exact HO_5.out⟩, ⟨by (with_reducible repeat (first | apply Kd.N_alloc | apply Kd.N_drewN | apply Kd.N_drew)); exact HO_10.out⟩, ⟨by (with_reducible repeat (first | apply Kd.R_alloc | apply Kd.R_drewN | apply Kd.R_drew)); exact HO_304000.out⟩, ⟨by (with_reducible repeat (first | refine blk_drewN ?_ _ | refine blk_drew ?_ | refine blk_alloc ?_ _)); exact BK291.out⟩, ⟨by (with_reducible repeat (first | refine blk_drewN ?_ _ | refine blk_drew ?_ | refine blk_alloc ?_ _)); exact BK303.out⟩, ⟨by repeat (first | (with_reducible first | exact HB.out | apply below_alloc | apply pw_below_drewN | apply below_drew1 | refine below_set ?_ GE291.out | refine below_set ?_ GE303.out) | exact HB.out)⟩⟩
                   case round =>
                    clear H'
                    try clear c2; try clear p2; try clear c3; try clear c4; try clear c5; try clear c6; try clear c7; try clear c9; try clear c22; try clear c23; try clear c26; try clear c28; try clear c29; try clear c29b0; try clear c29b1; try clear c29b2; try clear c30; try clear c30b0; try clear c30b1; try clear c30b2; try clear c31; try clear c31b0; try clear c31b1; try clear c31b2; try clear c32; try clear c32b0; try clear c32b1; try clear c32b2; try clear c36; try clear c39; try clear c40; try clear c46; try clear c55; try clear c62; try clear c62b0; try clear c62b1; try clear c63; try clear c63b0; try clear c63b1; try clear c67; try clear c68; try clear c69; try clear c71; try clear c72; try clear c72b0; try clear c72b1; try clear c73; try clear c73b0; try clear c73b1; try clear c76; try clear c76b0; try clear c77; try clear c77b0; try clear c77b1; try clear c77b2; try clear c92; try clear c92b0; try clear c92b1; try clear c94; try clear hcz33_0; try clear hcz33_1; try clear hcz35_0; try clear hcz35_1; try clear hcz40_0; try clear hcz40_1; try clear hcz41_0; try clear hcz41_1; try clear hcz43_0; try clear hcz43_1; try clear hcz46_0; try clear hcz46_1; try clear hcz49_0; try clear hcz49_1; try clear hcz51_0; try clear hcz51_1; try clear hcz56_0; try clear hcz56_1; try clear hcz57_0; try clear hcz57_1; try clear hcz59_0; try clear hcz59_1; try clear hcz61_0; try clear hcz61_1; try clear hfz33_0; try clear hfz33_1; try clear hfz35_0; try clear hfz35_1; try clear hfz40_0; try clear hfz40_1; try clear hfz41_0; try clear hfz41_1; try clear hfz43_0; try clear hfz43_1; try clear hfz46_0; try clear hfz46_1; try clear hfz49_0; try clear hfz49_1; try clear hfz51_0; try clear hfz51_1; try clear hfz56_0; try clear hfz56_1; try clear hfz57_0; try clear hfz57_1; try clear hfz59_0; try clear hfz59_1; try clear hfz61_0; try clear hfz61_1; try clear p2
                    obtain ⟨x11_5, rfl, HA, HK5, HO_5, HO_10, HO_304000, BK291, BK303, HB⟩ := hrel
                    cases gk with
                    | zero => exact absurd HA.out (by simp [pantilelaw33_CoverCells.l0])
                    | succ k5 =>
                     have H := HA.out
                     clear HA
                     simp only [pantilelaw33_CoverCells.l0] at H
                     by_cases c95 : x11_5 < (t294.length : Int)
                     ·rw [if_pos c95] at H
                      have c95b0 : decide (x11_5 < (t294.length : Int)) = true := decide_eq_true c95
                      clear c95
                      by_cases c96 : 0 ≤ x11_5
                      ·rw [if_pos c96] at H
                       have c96b0 : decide (0 ≤ x11_5) = true := decide_eq_true c96
                       clear c96
                       by_cases c97 : x11_5 < (t314.length : Int)
                       ·rw [if_pos c97] at H
                        have c97b0 : decide (x11_5 < (t314.length : Int)) = true := decide_eq_true c97
                        clear c97
                        by_cases c98 : ((rd_T89 t294 x11_5).f1) = ((rd_T94 t314 x11_5).f1)
                        ·rw [if_pos c98] at H
                         have c98b0 : (((rd_T89 t294 x11_5).f1) == ((rd_T94 t314 x11_5).f1)) = true := beq_iff_eq.mpr c98
                         have c98b1 : (((rd_T89 t294 x11_5).f1) != ((rd_T94 t314 x11_5).f1)) = false := bne_eq_false_iff_eq.mpr c98
                         clear c98
                         replace H := Option.bind_eq_some_iff.mp H
                         obtain ⟨t321, A990, H⟩ := H
                         replace H : (if t321 = true then (pantilelaw33_CoverCells.l0 k5 t294 t314 (wrap64 (x11_5 + 1))) else (some false)) = some r := H
                         have A99 := Aside0.mk A990
                         clear A990
                         by_cases c100 : t321 = true
                         ·subst c100
                          have H1 : (pantilelaw33_CoverCells.l0 k5 t294 t314 (wrap64 (x11_5 + 1))) = some r := by rw [if_pos rfl] at H; exact H
                          clear H
                          have H := H1
                          clear H1
                          have H' := Aside0.mk H
                          clear H
                          obtain ⟨Ao101, co101, eo101⟩ := Kd.N_slice HO_5.out
                          subst eo101
                          try go_wp2
                          have n0_ := Aside0.mk (Kd.N_drew HO_5.out)
                          have n1_ := Aside0.mk (Kd.N_drew HO_10.out)
                          have n2_ := Aside0.mk (Kd.R_drew HO_304000.out)
                          have n3_ := Aside0.mk (blk_drew BK291.out)
                          have n4_ := Aside0.mk (blk_drew BK303.out)
                          have n5_ := Aside0.mk (below_drew1 HB.out)
                          clear HO_5
                          clear HO_10
                          clear HO_304000
                          clear BK291
                          clear BK303
                          clear HB
                          have HO_5 := n0_
                          have HO_10 := n1_
                          have HO_304000 := n2_
                          have BK291 := n3_
                          have BK303 := n4_
                          have HB := n5_
                          clear n0_ n1_ n2_ n3_ n4_ n5_
                          have p317 : 0 ≤ (x11_5 : Int) := of_decide_eq_true (by first | (with_reducible assumption) | assumption)
                          have q317 : x11_5 < (t294.length : Int) := of_decide_eq_true (by first | (with_reducible assumption) | assumption)
                          obtain ⟨ad317, A317_0, c317_0, e317, hx317_0, hx317_1, hl317_0, hi317_0⟩ := at_T89 (Kd.N_reads' HO_5.out).2.2 x11_5 p317 q317
                          cases e317
                          obtain ⟨ce317, hce317, hMe317, hcc317⟩ := Kd.N_get HO_5.out z89 x11_5 p317 (by first | exact q317 | exact of_decide_eq_true (by first | (with_reducible assumption) | assumption) | (have e_ := (Kd.N_reads' HO_5.out).1; omega))
                          obtain ⟨ua317_0, uc317_0, rfl, ul317_0, ge317_0⟩ := k89_openF hMe317
                          have hv317_0 := hcc317 0 _ rfl
                          rw [Nat.add_zero] at hv317_0
                          replace hv317_0 := Option.some.inj (hv317_0.symm.trans hx317_0)
                          injection hv317_0 with hva_ hvn_ hvc_
                          rw [hva_] at ge317_0
                          rw [hvc_] at ul317_0
                          have HL317_0 := Aside0.mk (show Kd.V (Kd.int .u64) 30 _ w.heap.size _ _ ((rd_T89 t294 x11_5).f0) from Kd.V_mk ul317_0 ge317_0)
                          clear hva_ hvn_ hvc_ ge317_0 ul317_0
                          clear hcc317 hce317
                          have HR317_0 := Aside0.mk hi317_0
                          have HC317_0 := Aside0.mk hl317_0
                          clear hi317_0 hl317_0
                          replace p317 := eq_true p317
                          replace q317 := eq_true q317
                          have p318 : 0 ≤ (x11_5 : Int) := of_decide_eq_true (by first | (with_reducible assumption) | assumption)
                          have q318 : x11_5 < (t314.length : Int) := of_decide_eq_true (by first | (with_reducible assumption) | assumption)
                          obtain ⟨ad318, A318_0, c318_0, e318, hx318_0, hx318_1, hl318_0, hi318_0⟩ := at_T94 (Kd.N_reads' HO_10.out).2.2 x11_5 p318 q318
                          cases e318
                          obtain ⟨ce318, hce318, hMe318, hcc318⟩ := Kd.N_get HO_10.out z94 x11_5 p318 (by first | exact q318 | exact of_decide_eq_true (by first | (with_reducible assumption) | assumption) | (have e_ := (Kd.N_reads' HO_10.out).1; omega))
                          obtain ⟨ua318_0, uc318_0, rfl, ul318_0, ge318_0⟩ := k94_openF hMe318
                          have hv318_0 := hcc318 0 _ rfl
                          rw [Nat.add_zero] at hv318_0
                          replace hv318_0 := Option.some.inj (hv318_0.symm.trans hx318_0)
                          injection hv318_0 with hva_ hvn_ hvc_
                          rw [hva_] at ge318_0
                          rw [hvc_] at ul318_0
                          have HL318_0 := Aside0.mk (show Kd.V (Kd.int .u64) 30 _ w.heap.size _ _ ((rd_T94 t314 x11_5).f0) from Kd.V_mk ul318_0 ge318_0)
                          clear hva_ hvn_ hvc_ ge318_0 ul318_0
                          clear hcc318 hce318
                          have HR318_0 := Aside0.mk hi318_0
                          have HC318_0 := Aside0.mk hl318_0
                          clear hi318_0 hl318_0
                          replace p318 := eq_true p318
                          replace q318 := eq_true q318
                          have p319 : 0 ≤ (x11_5 : Int) := of_decide_eq_true (by first | (with_reducible assumption) | assumption)
                          have q319 : x11_5 < (t294.length : Int) := of_decide_eq_true (by first | (with_reducible assumption) | assumption)
                          obtain ⟨ad319, A319_0, c319_0, e319, hx319_0, hx319_1, hl319_0, hi319_0⟩ := at_T89 (Kd.N_reads' HO_5.out).2.2 x11_5 p319 q319
                          obtain rfl : ad317 = ad319 := (by injection e319)
                          obtain ⟨ce319, hce319, hMe319, hcc319⟩ := Kd.N_get HO_5.out z89 x11_5 p319 (by first | exact q319 | exact of_decide_eq_true (by first | (with_reducible assumption) | assumption) | (have e_ := (Kd.N_reads' HO_5.out).1; omega))
                          obtain ⟨ua319_0, uc319_0, rfl, ul319_0, ge319_0⟩ := k89_openF hMe319
                          have hv319_0 := hcc319 0 _ rfl
                          rw [Nat.add_zero] at hv319_0
                          replace hv319_0 := Option.some.inj (hv319_0.symm.trans hx319_0)
                          injection hv319_0 with hva_ hvn_ hvc_
                          rw [hva_] at ge319_0
                          rw [hvc_] at ul319_0
                          have HL319_0 := Aside0.mk (show Kd.V (Kd.int .u64) 30 _ w.heap.size _ _ ((rd_T89 t294 x11_5).f0) from Kd.V_mk ul319_0 ge319_0)
                          clear hva_ hvn_ hvc_ ge319_0 ul319_0
                          clear hcc319 hce319
                          have HR319_0 := Aside0.mk hi319_0
                          have HC319_0 := Aside0.mk hl319_0
                          clear hi319_0 hl319_0
                          replace p319 := eq_true p319
                          replace q319 := eq_true q319
                          have ea_ := Option.some.inj (hx317_0.symm.trans hx319_0)
                          injection ea_ with ea_ en_ ec_
                          subst ea_
                          subst ec_
                          clear en_
                          have p320 : 0 ≤ (x11_5 : Int) := of_decide_eq_true (by first | (with_reducible assumption) | assumption)
                          have q320 : x11_5 < (t314.length : Int) := of_decide_eq_true (by first | (with_reducible assumption) | assumption)
                          obtain ⟨ad320, A320_0, c320_0, e320, hx320_0, hx320_1, hl320_0, hi320_0⟩ := at_T94 (Kd.N_reads' HO_10.out).2.2 x11_5 p320 q320
                          obtain rfl : ad318 = ad320 := (by injection e320)
                          obtain ⟨ce320, hce320, hMe320, hcc320⟩ := Kd.N_get HO_10.out z94 x11_5 p320 (by first | exact q320 | exact of_decide_eq_true (by first | (with_reducible assumption) | assumption) | (have e_ := (Kd.N_reads' HO_10.out).1; omega))
                          obtain ⟨ua320_0, uc320_0, rfl, ul320_0, ge320_0⟩ := k94_openF hMe320
                          have hv320_0 := hcc320 0 _ rfl
                          rw [Nat.add_zero] at hv320_0
                          replace hv320_0 := Option.some.inj (hv320_0.symm.trans hx320_0)
                          injection hv320_0 with hva_ hvn_ hvc_
                          rw [hva_] at ge320_0
                          rw [hvc_] at ul320_0
                          have HL320_0 := Aside0.mk (show Kd.V (Kd.int .u64) 30 _ w.heap.size _ _ ((rd_T94 t314 x11_5).f0) from Kd.V_mk ul320_0 ge320_0)
                          clear hva_ hvn_ hvc_ ge320_0 ul320_0
                          clear hcc320 hce320
                          have HR320_0 := Aside0.mk hi320_0
                          have HC320_0 := Aside0.mk hl320_0
                          clear hi320_0 hl320_0
                          replace p320 := eq_true p320
                          replace q320 := eq_true q320
                          have ea_ := Option.some.inj (hx318_0.symm.trans hx320_0)
                          injection ea_ with ea_ en_ ec_
                          subst ea_
                          subst ec_
                          clear en_
                          refine start_ (n := 25) (S := fun w' => w'.cell? (ad317.add ((x11_5).toNat * 2)) = some (.slice A317_0 ((rd_T89 t294 x11_5).f0).length c317_0) ∧ w'.cell? ⟨(ad317.add ((x11_5).toNat * 2)).block, (ad317.add ((x11_5).toNat * 2)).off + 1, none⟩ = some (.int .i64 ((rd_T89 t294 x11_5).f1)) ∧ w'.cell? (ad318.add ((x11_5).toNat * 2)) = some (.slice A318_0 ((rd_T94 t314 x11_5).f0).length c318_0) ∧ w'.cell? ⟨(ad318.add ((x11_5).toNat * 2)).block, (ad318.add ((x11_5).toNat * 2)).off + 1, none⟩ = some (.int .i64 ((rd_T94 t314 x11_5).f1)) ∧ w'.cell? (ad317.add ((x11_5).toNat * 2)) = some (.slice A317_0 ((rd_T89 t294 x11_5).f0).length c317_0) ∧ w'.cell? ⟨(ad317.add ((x11_5).toNat * 2)).block, (ad317.add ((x11_5).toNat * 2)).off + 1, none⟩ = some (.int .i64 ((rd_T89 t294 x11_5).f1)) ∧ w'.cell? (ad318.add ((x11_5).toNat * 2)) = some (.slice A318_0 ((rd_T94 t314 x11_5).f0).length c318_0) ∧ w'.cell? ⟨(ad318.add ((x11_5).toNat * 2)).block, (ad318.add ((x11_5).toNat * 2)).off + 1, none⟩ = some (.int .i64 ((rd_T94 t314 x11_5).f1))) (ds := []) #[O,O,O,O,O,O,O,O,O,O,O,O,O,O,O,O,O,O,O,O,O,O,O,O,O] (by kernel_rfl) rfl rfl ⟨hx317_0, hx317_1, hx318_0, hx318_1, hx319_0, hx319_1, hx320_0, hx320_1⟩ (fun hHeld => ?_); refine with_tabW pantilelaw33_CoverCells.tab24 pantilelaw33_CoverCells.bits24 (fun HT_ HW_ => ?_)
                          generalize wr.drew = w102 at HO_5 HO_10 HO_304000 BK291 BK303 HB HL317_0 HL318_0 HL319_0 HL320_0 HR317_0 HR318_0 HR319_0 HR320_0 hx317_0 hx317_1 hx318_0 hx318_1 hx319_0 hx319_1 hx320_0 hx320_1 hHeld ⊢
                          refine pure_ (i := 0) (N := some 154) (v := ?_) (a' := ?_) #[Y,O,O,O,O,O,O,O,O,O,O,O,O,O,O,O,O,O,O,O,O,O,O,O,O] rfl rfl (any_of HT_.out (by kernel_rfl)) (fun _ _ _ h => h) (Or.inl ⟨by rfl, ?_⟩) ?_ ?_
                          rotate_left
                          ·intro w'
                           go_simp
                           with_reducible rfl
                          rotate_left
                          ·simp only [Act.put, lsA, ls0, ls1, i64_w, i32_w]
                           rfl
                          refine pure_ (i := 1) (N := some 155) (v := ?_) (a' := ?_) #[Y,Y,O,O,O,O,O,O,O,O,O,O,O,O,O,O,O,O,O,O,O,O,O,O,O] rfl rfl (any_of HT_.out (by kernel_rfl)) (fun _ _ _ h => h) (Or.inl ⟨by rfl, ?_⟩) ?_ ?_
                          rotate_left
                          ·intro w'
                           go_simp
                           with_reducible rfl
                          rotate_left
                          ·simp only [Act.put, lsA, ls0, ls1, i64_w, i32_w]
                           rfl
                          refine pure_ (i := 2) (N := some 156) (v := ?_) (a' := ?_) #[Y,Y,Y,O,O,O,O,O,O,O,O,O,O,O,O,O,O,O,O,O,O,O,O,O,O] rfl rfl (any_of HT_.out (by kernel_rfl)) (fun _ _ _ h => h) (Or.inl ⟨by rfl, ?_⟩) ?_ ?_
                          rotate_left
                          ·intro w'
                           go_simp
                           with_reducible rfl
                          rotate_left
                          ·simp only [Act.put, lsA, ls0, ls1, i64_w, i32_w]
                           rfl
                          refine pure_ (i := 3) (N := some 157) (v := ?_) (a' := ?_) #[Y,Y,Y,Y,O,O,O,O,O,O,O,O,O,O,O,O,O,O,O,O,O,O,O,O,O] rfl rfl (any_of HT_.out (by kernel_rfl)) (fun _ _ _ h => h) (Or.inl ⟨by rfl, ?_⟩) ?_ ?_
                          rotate_left
                          ·intro w'
                           go_simp
                           with_reducible rfl
                          rotate_left
                          ·simp only [Act.put, lsA, ls0, ls1, i64_w, i32_w]
                           rfl
                          refine pure_ (i := 5) (N := some 159) (v := ?_) (a' := ?_) #[Y,Y,Y,Y,O,Y,O,O,O,O,O,O,O,O,O,O,O,O,O,O,O,O,O,O,O] rfl rfl (any_of HT_.out (by kernel_rfl)) (fun _ _ _ h => h) (Or.inl ⟨by rfl, ?_⟩) ?_ ?_
                          rotate_left
                          ·intro w'
                           go_simp
                           with_reducible rfl
                          rotate_left
                          ·simp only [Act.put, lsA, ls0, ls1, i64_w, i32_w]
                           rfl
                          refine pure_ (i := 6) (N := some 160) (v := ?_) (a' := ?_) #[Y,Y,Y,Y,O,Y,Y,O,O,O,O,O,O,O,O,O,O,O,O,O,O,O,O,O,O] rfl rfl (any_of HT_.out (by kernel_rfl)) (fun _ _ _ h => h) (Or.inl ⟨by rfl, ?_⟩) ?_ ?_
                          rotate_left
                          ·intro w'
                           go_simp
                           with_reducible rfl
                          rotate_left
                          ·simp only [Act.put, lsA, ls0, ls1, i64_w, i32_w]
                           rfl
                          refine pure_ (i := 7) (N := some 161) (v := ?_) (a' := ?_) #[Y,Y,Y,Y,O,Y,Y,Y,O,O,O,O,O,O,O,O,O,O,O,O,O,O,O,O,O] rfl rfl (any_of HT_.out (by kernel_rfl)) (fun _ _ _ h => h) (Or.inl ⟨by rfl, ?_⟩) ?_ ?_
                          rotate_left
                          ·intro w'
                           go_simp
                           with_reducible rfl
                          rotate_left
                          ·simp only [Act.put, lsA, ls0, ls1, i64_w, i32_w]
                           rfl
                          refine pure_ (i := 8) (N := some 162) (v := ?_) (a' := ?_) #[Y,Y,Y,Y,O,Y,Y,Y,Y,O,O,O,O,O,O,O,O,O,O,O,O,O,O,O,O] rfl rfl (any_of HT_.out (by kernel_rfl)) (fun _ _ _ h => h) (Or.inl ⟨by rfl, ?_⟩) ?_ ?_
                          rotate_left
                          ·intro w'
                           go_simp
                           with_reducible rfl
                          rotate_left
                          ·simp only [Act.put, lsA, ls0, ls1, i64_w, i32_w]
                           rfl
                          refine take_ (i := 4) (N := some 158) (v := ?_) (a' := ?_) #[Y,Y,Y,Y,Y,Y,Y,Y,Y,O,O,O,O,O,O,O,O,O,O,O,O,O,O,O,O] rfl rfl (take_ofW HT_.out HW_.out (by kernel_rfl)) (fun _ _ _ h => h) (Or.inl ⟨by rfl, ?_⟩) hHeld ?_ ?_
                          rotate_left
                          ·rintro w' ⟨s0, s1, s2, s3, s4, s5, s6, s7⟩
                           go_simp
                           with_reducible rfl
                          rotate_left
                          ·simp only [Act.put, lsA, ls0, ls1, i64_w, i32_w]
                           rfl
                          refine take_ (i := 9) (N := some 163) (v := ?_) (a' := ?_) #[Y,Y,Y,Y,Y,Y,Y,Y,Y,Y,O,O,O,O,O,O,O,O,O,O,O,O,O,O,O] rfl rfl (take_ofW HT_.out HW_.out (by kernel_rfl)) (fun _ _ _ h => h) (Or.inl ⟨by rfl, ?_⟩) hHeld ?_ ?_
                          rotate_left
                          ·rintro w' ⟨s0, s1, s2, s3, s4, s5, s6, s7⟩
                           go_simp
                           with_reducible rfl
                          rotate_left
                          ·simp only [Act.put, lsA, ls0, ls1, i64_w, i32_w]
                           rfl
                          refine pure_ (i := 10) (N := some 164) (v := ?_) (a' := ?_) #[Y,Y,Y,Y,Y,Y,Y,Y,Y,Y,Y,O,O,O,O,O,O,O,O,O,O,O,O,O,O] rfl rfl (any_of HT_.out (by kernel_rfl)) (fun _ _ _ h => h) (Or.inl ⟨by rfl, ?_⟩) ?_ ?_
                          rotate_left
                          ·intro w'
                           go_simp
                           with_reducible rfl
                          rotate_left
                          ·simp only [Act.put, lsA, ls0, ls1, i64_w, i32_w]
                           rfl
                          refine pure_ (i := 11) (N := some 165) (v := ?_) (a' := ?_) #[Y,Y,Y,Y,Y,Y,Y,Y,Y,Y,Y,Y,O,O,O,O,O,O,O,O,O,O,O,O,O] rfl rfl (any_of HT_.out (by kernel_rfl)) (fun _ _ _ h => h) (Or.inl ⟨by rfl, ?_⟩) ?_ ?_
                          rotate_left
                          ·intro w'
                           go_simp
                           with_reducible rfl
                          rotate_left
                          ·simp only [Act.put, lsA, ls0, ls1, i64_w, i32_w]
                           rfl
                          refine pure_ (i := 12) (N := some 166) (v := ?_) (a' := ?_) #[Y,Y,Y,Y,Y,Y,Y,Y,Y,Y,Y,Y,Y,O,O,O,O,O,O,O,O,O,O,O,O] rfl rfl (any_of HT_.out (by kernel_rfl)) (fun _ _ _ h => h) (Or.inl ⟨by rfl, ?_⟩) ?_ ?_
                          rotate_left
                          ·intro w'
                           go_simp
                           with_reducible rfl
                          rotate_left
                          ·simp only [Act.put, lsA, ls0, ls1, i64_w, i32_w]
                           rfl
                          refine pure_ (i := 13) (N := some 167) (v := ?_) (a' := ?_) #[Y,Y,Y,Y,Y,Y,Y,Y,Y,Y,Y,Y,Y,Y,O,O,O,O,O,O,O,O,O,O,O] rfl rfl (any_of HT_.out (by kernel_rfl)) (fun _ _ _ h => h) (Or.inl ⟨by rfl, ?_⟩) ?_ ?_
                          rotate_left
                          ·intro w'
                           go_simp
                           with_reducible rfl
                          rotate_left
                          ·simp only [Act.put, lsA, ls0, ls1, i64_w, i32_w]
                           rfl
                          refine pure_ (i := 14) (N := some 168) (v := ?_) (a' := ?_) #[Y,Y,Y,Y,Y,Y,Y,Y,Y,Y,Y,Y,Y,Y,Y,O,O,O,O,O,O,O,O,O,O] rfl rfl (any_of HT_.out (by kernel_rfl)) (fun _ _ _ h => h) (Or.inl ⟨by rfl, ?_⟩) ?_ ?_
                          rotate_left
                          ·intro w'
                           go_simp
                           with_reducible rfl
                          rotate_left
                          ·simp only [Act.put, lsA, ls0, ls1, i64_w, i32_w]
                           rfl
                          refine pure_ (i := 15) (N := some 169) (v := ?_) (a' := ?_) #[Y,Y,Y,Y,Y,Y,Y,Y,Y,Y,Y,Y,Y,Y,Y,Y,O,O,O,O,O,O,O,O,O] rfl rfl (any_of HT_.out (by kernel_rfl)) (fun _ _ _ h => h) (Or.inl ⟨by rfl, ?_⟩) ?_ ?_
                          rotate_left
                          ·intro w'
                           go_simp
                           with_reducible rfl
                          rotate_left
                          ·simp only [Act.put, lsA, ls0, ls1, i64_w, i32_w]
                           rfl
                          refine pure_ (i := 17) (N := some 171) (v := ?_) (a' := ?_) #[Y,Y,Y,Y,Y,Y,Y,Y,Y,Y,Y,Y,Y,Y,Y,Y,O,Y,O,O,O,O,O,O,O] rfl rfl (any_of HT_.out (by kernel_rfl)) (fun _ _ _ h => h) (Or.inl ⟨by rfl, ?_⟩) ?_ ?_
                          rotate_left
                          ·intro w'
                           go_simp
                           with_reducible rfl
                          rotate_left
                          ·simp only [Act.put, lsA, ls0, ls1, i64_w, i32_w]
                           rfl
                          refine pure_ (i := 18) (N := some 172) (v := ?_) (a' := ?_) #[Y,Y,Y,Y,Y,Y,Y,Y,Y,Y,Y,Y,Y,Y,Y,Y,O,Y,Y,O,O,O,O,O,O] rfl rfl (any_of HT_.out (by kernel_rfl)) (fun _ _ _ h => h) (Or.inl ⟨by rfl, ?_⟩) ?_ ?_
                          rotate_left
                          ·intro w'
                           go_simp
                           with_reducible rfl
                          rotate_left
                          ·simp only [Act.put, lsA, ls0, ls1, i64_w, i32_w]
                           rfl
                          refine pure_ (i := 19) (N := some 173) (v := ?_) (a' := ?_) #[Y,Y,Y,Y,Y,Y,Y,Y,Y,Y,Y,Y,Y,Y,Y,Y,O,Y,Y,Y,O,O,O,O,O] rfl rfl (any_of HT_.out (by kernel_rfl)) (fun _ _ _ h => h) (Or.inl ⟨by rfl, ?_⟩) ?_ ?_
                          rotate_left
                          ·intro w'
                           go_simp
                           with_reducible rfl
                          rotate_left
                          ·simp only [Act.put, lsA, ls0, ls1, i64_w, i32_w]
                           rfl
                          refine pure_ (i := 20) (N := some 174) (v := ?_) (a' := ?_) #[Y,Y,Y,Y,Y,Y,Y,Y,Y,Y,Y,Y,Y,Y,Y,Y,O,Y,Y,Y,Y,O,O,O,O] rfl rfl (any_of HT_.out (by kernel_rfl)) (fun _ _ _ h => h) (Or.inl ⟨by rfl, ?_⟩) ?_ ?_
                          rotate_left
                          ·intro w'
                           go_simp
                           with_reducible rfl
                          rotate_left
                          ·simp only [Act.put, lsA, ls0, ls1, i64_w, i32_w]
                           rfl
                          refine take_ (i := 16) (N := some 170) (v := ?_) (a' := ?_) #[Y,Y,Y,Y,Y,Y,Y,Y,Y,Y,Y,Y,Y,Y,Y,Y,Y,Y,Y,Y,Y,O,O,O,O] rfl rfl (take_ofW HT_.out HW_.out (by kernel_rfl)) (fun _ _ _ h => h) (Or.inl ⟨by rfl, ?_⟩) hHeld ?_ ?_
                          rotate_left
                          ·rintro w' ⟨s0, s1, s2, s3, s4, s5, s6, s7⟩
                           go_simp
                           with_reducible rfl
                          rotate_left
                          ·simp only [Act.put, lsA, ls0, ls1, i64_w, i32_w]
                           rfl
                          refine take_ (i := 21) (N := some 175) (v := ?_) (a' := ?_) #[Y,Y,Y,Y,Y,Y,Y,Y,Y,Y,Y,Y,Y,Y,Y,Y,Y,Y,Y,Y,Y,Y,O,O,O] rfl rfl (take_ofW HT_.out HW_.out (by kernel_rfl)) (fun _ _ _ h => h) (Or.inl ⟨by rfl, ?_⟩) hHeld ?_ ?_
                          rotate_left
                          ·rintro w' ⟨s0, s1, s2, s3, s4, s5, s6, s7⟩
                           go_simp
                           with_reducible rfl
                          rotate_left
                          ·simp only [Act.put, lsA, ls0, ls1, i64_w, i32_w]
                           rfl
                          refine one_ (i := 22) (N := some 176) #[Y,Y,Y,Y,Y,Y,Y,Y,Y,Y,Y,Y,Y,Y,Y,Y,Y,Y,Y,Y,Y,Y,Y,O,O] rfl rfl (one_of HT_.out (by kernel_rfl)) (by decide) (fun K hK => ?_)
                          refine goes_ Try.func23 (by kernel_rfl) rfl #[.slice A317_0 ((rd_T89 t294 x11_5).f0).length c317_0, .slice A318_0 ((rd_T94 t314 x11_5).f0).length c318_0] (by rfl) rfl rfl (by (try simp only [List.map_toArray, List.map_cons, List.map_nil]); first | done | rfl | (simp only [List.length_drop, List.length_take]; rfl)) ?_
                          with_reducible refine (pantileref01_Same.calls k5 _ _ ((rd_T89 t294 x11_5).f0) _ _ ((rd_T94 t314 x11_5).f0) true _ ?side1 ?side2 ?side3 ?side4 A99.out).mono ?_
                          (case side1 => repeat (first | exact (by repeat (first | (with_reducible exact HR319_0.out) | (with_reducible refine Kd.C_alloc ?_ _) | (with_reducible refine Kd.C_drewN ?_ _) | (with_reducible refine Kd.C_drew ?_) | exact HR319_0.out)) | (with_reducible refine Kd.C_alloc ?_ _) | (with_reducible refine Kd.C_drewN ?_ _) | (with_reducible refine Kd.C_drew ?_)))
                          (case side2 => exact HC319_0.out)
                          (case side3 => repeat (first | exact (by repeat (first | (with_reducible exact HR320_0.out) | (with_reducible refine Kd.C_alloc ?_ _) | (with_reducible refine Kd.C_drewN ?_ _) | (with_reducible refine Kd.C_drew ?_) | exact HR320_0.out)) | (with_reducible refine Kd.C_alloc ?_ _) | (with_reducible refine Kd.C_drewN ?_ _) | (with_reducible refine Kd.C_drew ?_)))
                          (case side4 => exact HC320_0.out)
                          rintro e w' ⟨rfl, ⟨nd, rfl⟩⟩
                          refine ⟨_, rfl, ?_⟩
                          refine hK.out _ _ ⟨hHeld.1, hHeld.2.1, hHeld.2.2.1, hHeld.2.2.2.1, hHeld.2.2.2.2.1, hHeld.2.2.2.2.2.1, hHeld.2.2.2.2.2.2.1, hHeld.2.2.2.2.2.2.2⟩ (fun hHeld => ?_)
                          clear hK K
                          refine norm_ (a' := ?_) ?_ ?_
                          rotate_left
                          ·show Act.put _ (some 176) _ = _
                           simp only [Act.put, lsA, ls0, ls1, i64_w, i32_w]
                           rfl
                          refine pure_ (i := 23) (N := some 177) (v := ?_) (a' := ?_) #[Y,Y,Y,Y,Y,Y,Y,Y,Y,Y,Y,Y,Y,Y,Y,Y,Y,Y,Y,Y,Y,Y,Y,Y,O] rfl rfl (any_of HT_.out (by kernel_rfl)) (fun _ _ _ h => h) (Or.inl ⟨by rfl, ?_⟩) ?_ ?_
                          rotate_left
                          ·intro w'
                           go_simp
                           with_reducible rfl
                          rotate_left
                          ·simp only [Act.put, lsA, ls0, ls1, i64_w, i32_w]
                           rfl
                          refine pure_ (i := 24) (N := some 178) (v := ?_) (a' := ?_) #[Y,Y,Y,Y,Y,Y,Y,Y,Y,Y,Y,Y,Y,Y,Y,Y,Y,Y,Y,Y,Y,Y,Y,Y,Y] rfl rfl (any_of HT_.out (by kernel_rfl)) (fun _ _ _ h => h) (Or.inl ⟨by rfl, ?_⟩) ?_ ?_
                          rotate_left
                          ·intro w'
                           go_simp
                           with_reducible rfl
                          rotate_left
                          ·simp only [Act.put, lsA, ls0, ls1, i64_w, i32_w]
                           rfl
                          refine done_ (done_of HT_.out (by kernel_rfl)) ?_
                          try go_wp2
                          go_roundg k5
                          case measure => have := HJ4.out; have := HJ13.out; have := HJ47.out; have := HJ84.out; have := HK5.out; omega
                          case rel => exact ⟨(wrap64 (x11_5 + 1)), (by first | rfl | (simp; done) | (simp [*]; done)), H', ⟨by have := HJ4.out; have := HJ13.out; have := HJ47.out; have := HJ84.out; have := HK5.out; omega⟩, ⟨by (with_reducible repeat (first | apply Kd.N_alloc | apply Kd.N_drewN | apply Kd.N_drew)); exact HO_5.out⟩, ⟨by (with_reducible repeat (first | apply Kd.N_alloc | apply Kd.N_drewN | apply Kd.N_drew)); exact HO_10.out⟩, ⟨by (with_reducible repeat (first | apply Kd.R_alloc | apply Kd.R_drewN | apply Kd.R_drew)); exact HO_304000.out⟩, ⟨by (with_reducible repeat (first | refine blk_drewN ?_ _ | refine blk_drew ?_ | refine blk_alloc ?_ _)); exact BK291.out⟩, ⟨by (with_reducible repeat (first | refine blk_drewN ?_ _ | refine blk_drew ?_ | refine blk_alloc ?_ _)); exact BK303.out⟩, ⟨by repeat (first | (with_reducible first | exact HB.out | apply below_alloc | apply pw_below_drewN | apply below_drew1 | refine below_set ?_ GE291.out | refine below_set ?_ GE303.out) | exact HB.out)⟩⟩
                         ·replace c100 := Bool.eq_false_iff.mpr c100
                          subst c100
                          have H1 : (some false) = some r := by rw [if_neg (show ¬ (false = true) by decide)] at H; exact H
                          clear H
                          have H := H1
                          clear H1
                          exact Bool.noConfusion ((Option.some.inj H).trans HRT.out)
                        ·rw [if_neg c98] at H
                         have c98b0 : (((rd_T89 t294 x11_5).f1) == ((rd_T94 t314 x11_5).f1)) = false := beq_eq_false_iff_ne.mpr c98
                         have c98b1 : (((rd_T89 t294 x11_5).f1) != ((rd_T94 t314 x11_5).f1)) = true := bne_iff_ne.mpr c98
                         exact Bool.noConfusion ((Option.some.inj H).trans HRT.out)
                       ·rw [if_neg c97] at H
                        exact absurd H (by simp)
                      ·rw [if_neg c96] at H
                       exact absurd H (by simp)
                     ·rw [if_neg c95] at H
                      have c95b0 : decide (x11_5 < (t294.length : Int)) = false := decide_eq_false c95
                      clear c95
                      obtain rfl := Option.some.inj H
                      obtain ⟨Ao103, co103, eo103⟩ := Kd.N_slice HO_5.out
                      subst eo103
                      go_wp2
                      go_ret
                      exact ⟨by first | rfl | (simp [errW_none, errW_some] <;> rfl) | (simp only [← hji74]; first | rfl | (simp [errW_none, errW_some] <;> rfl)) | (simp [*, errW_none, errW_some] <;> rfl), by repeat (first | (with_reducible first | exact HB.out | apply below_alloc | apply pw_below_drewN | apply below_drew1 | refine below_set ?_ GE291.out | refine below_set ?_ GE303.out) | exact HB.out)⟩
              ·rw [if_neg c73] at H
               exact absurd H (by simp)
             ·rw [if_neg c72] at H
              exact absurd H (by simp)
        ·replace c26 := Bool.eq_false_iff.mpr c26
         subst c26
         have H1 : (if (t294.length : Int) = 0 then (if t297 = 2 then (if (t298.length : Int) = 0 then (some (t302 == 2)) else (some false)) else (some false)) else (some false)) = some r := by rw [if_neg (show ¬ (false = true) by decide)] at H; exact H
         clear H
         have H := H1
         clear H1
         by_cases c104 : (t294.length : Int) = 0
         ·rw [if_pos c104] at H
          have c104b0 : ((t294.length : Int) == 0) = true := beq_iff_eq.mpr c104
          have c104b1 : ((t294.length : Int) != 0) = false := bne_eq_false_iff_eq.mpr c104
          clear c104
          by_cases c105 : t297 = 2
          ·rw [if_pos c105] at H
           have c105b0 : (t297 == 2) = true := beq_iff_eq.mpr c105
           have c105b1 : (t297 != 2) = false := bne_eq_false_iff_eq.mpr c105
           clear c105
           by_cases c106 : (t298.length : Int) = 0
           ·rw [if_pos c106] at H
            have c106b0 : ((t298.length : Int) == 0) = true := beq_iff_eq.mpr c106
            have c106b1 : ((t298.length : Int) != 0) = false := bne_eq_false_iff_eq.mpr c106
            clear c106
            obtain rfl := Option.some.inj H
            have hcz107_0 : wc.cell? ⟨gb291, 0, none⟩ = some (.slice A0_0 l0_0.length c0_0) := (blk_cell BK291.out 0).trans rfl
            have hcz107_1 : wc.cell? ⟨gb291, 1, none⟩ = some (.slice A0_1 l0_1.length c0_1) := (blk_cell BK291.out 1).trans rfl
            have hfz107_0 := blk_frozen BK291.out 0
            have hfz107_1 := blk_frozen BK291.out 1
            go_wp2_with (first | ((with_reducible refine gate_callee (f := 67) rfl ?_); refine goesL_ (some 39) rfl rfl Try.func67 (by kernel_rfl) rfl #[.agg #[.slice A0_0 l0_0.length c0_0, .slice A0_1 l0_1.length c0_1], .int .i64 a1] rfl (by (try simp only [List.map_toArray, List.map_cons, List.map_nil]); first | done | rfl | (simp only [List.length_drop, List.length_take]; rfl)) ?_; (with_reducible refine (cover_Cells.calls kj13 _ _ l0_0 _ _ l0_1 a1 t294 t297 _ ?side1 ?side2 ?side3 ?side4 A23.out).mono ?_); (case side1 => repeat (first | exact (Kd.C_below HR0_0.out HB.out) | (with_reducible refine Kd.C_alloc ?_ _) | (with_reducible refine Kd.C_drewN ?_ _) | (with_reducible refine Kd.C_drew ?_))); (case side2 => exact HC0_0.out); (case side3 => repeat (first | exact (Kd.C_below HR0_1.out HB.out) | (with_reducible refine Kd.C_alloc ?_ _) | (with_reducible refine Kd.C_drewN ?_ _) | (with_reducible refine Kd.C_drew ?_))); (case side4 => exact HC0_1.out); rintro e w108 ⟨v295, rfl, ho0, hb⟩; refine ⟨_, rfl, ?_⟩; have n0_ := Aside0.mk (Kd.N_lower (Kd.N_mono (ok' := fun k_ => k_ ≠ gb291) ho0 (fun k_ hk_ => (Kd.freshB (g := gb291) (o := .cells #[.slice A0_0 l0_0.length c0_0, .slice A0_1 l0_1.length c0_1] 32 (0, 0)) (by (with_reducible repeat (first | refine blk_drewN ?_ _ | refine blk_drew ?_ | refine blk_alloc ?_ _)); exact BK291.out) k_ hk_))) (below_size (by repeat (first | (with_reducible first | exact HB.out | apply below_alloc | apply pw_below_drewN | apply below_drew1 | refine below_set ?_ GE291.out) | exact HB.out)))); have n1_ := Aside0.mk (blk_below (g := gb291) (o := .cells #[.slice A0_0 l0_0.length c0_0, .slice A0_1 l0_1.length c0_1] 32 (0, 0)) (by (with_reducible repeat (first | refine blk_drewN ?_ _ | refine blk_drew ?_ | refine blk_alloc ?_ _)); exact BK291.out) hb); have n2_ := Aside0.mk (below_step (by repeat (first | (with_reducible first | exact HB.out | apply below_alloc | apply pw_below_drewN | apply below_drew1 | refine below_set ?_ GE291.out) | exact HB.out)) hb); clear BK291; clear HB; have HO296 := n0_; have BK291 := n1_; have HB := n2_; clear n0_ n1_ n2_; (try clear hb); (try clear hb2); (try clear hk); (try clear hi); (try clear ho0); have hcz109_0 : w108.cell? ⟨gb291, 0, none⟩ = some (.slice A0_0 l0_0.length c0_0) := (blk_cell BK291.out 0).trans rfl; have hcz109_1 : w108.cell? ⟨gb291, 1, none⟩ = some (.slice A0_1 l0_1.length c0_1) := (blk_cell BK291.out 1).trans rfl; have hfz109_0 := blk_frozen BK291.out 0; have hfz109_1 := blk_frozen BK291.out 1) | ((with_reducible refine gate_callee (f := 68) rfl ?_); refine goesL_ (some 44) rfl rfl Try.func68 (by kernel_rfl) rfl #[.agg #[.slice A0_0 l0_0.length c0_0, .slice A0_1 l0_1.length c0_1]] rfl (by (try simp only [List.map_toArray, List.map_cons, List.map_nil]); first | done | rfl | (simp only [List.length_drop, List.length_take]; rfl)) ?_; (with_reducible refine (cover_Least.calls kj13 _ _ l0_0 _ _ l0_1 t298 t301 t302 _ ?side1 ?side2 ?side3 ?side4 A24.out).mono ?_); (case side1 => repeat (first | exact (Kd.C_below HR0_0.out HB.out) | (with_reducible refine Kd.C_alloc ?_ _) | (with_reducible refine Kd.C_drewN ?_ _) | (with_reducible refine Kd.C_drew ?_))); (case side2 => exact HC0_0.out); (case side3 => repeat (first | exact (Kd.C_below HR0_1.out HB.out) | (with_reducible refine Kd.C_alloc ?_ _) | (with_reducible refine Kd.C_drewN ?_ _) | (with_reducible refine Kd.C_drew ?_))); (case side4 => exact HC0_1.out); rintro e w110 ⟨v299, rfl, ho0, hb⟩; refine ⟨_, rfl, ?_⟩; have n0_ := Aside0.mk (Kd.N_elder' (by (with_reducible repeat (first | apply Kd.N_alloc | apply Kd.N_drewN | apply Kd.N_drew)); exact HO296.out) (Kd.R_base ho0) hb); have n1_ := Aside0.mk (Kd.R_lower ho0 (below_size (by repeat (first | (with_reducible first | exact HB.out | apply below_alloc | apply pw_below_drewN | apply below_drew1 | refine below_set ?_ GE291.out) | exact HB.out)))); have n2_ := Aside0.mk (blk_below (g := gb291) (o := .cells #[.slice A0_0 l0_0.length c0_0, .slice A0_1 l0_1.length c0_1] 32 (0, 0)) (by (with_reducible repeat (first | refine blk_drewN ?_ _ | refine blk_drew ?_ | refine blk_alloc ?_ _)); exact BK291.out) hb); have n3_ := Aside0.mk (below_step (by repeat (first | (with_reducible first | exact HB.out | apply below_alloc | apply pw_below_drewN | apply below_drew1 | refine below_set ?_ GE291.out) | exact HB.out)) hb); clear HO296; clear BK291; clear HB; have HO296 := n0_; have HO300 := n1_; have BK291 := n2_; have HB := n3_; clear n0_ n1_ n2_ n3_; (try clear hb); (try clear hb2); (try clear hk); (try clear hi); (try clear ho0)) | ((with_reducible refine gate_dst (N := 7) rfl ?_); (try (refine gate_guard (by rfl) ?_; dsimp only)); refine box_event ?hg (N := 7) ?hd (cs := #[.slice none 0 0, .int .i64 0]) (t := 89) ?hr ?_; (case hd => rfl); (case hg => rfl); (case hr => first | (go_simp; done) | (go_simp; rfl)); intro gb303 hg w111 hbox hb; have n0_ := Aside0.mk (Kd.N_below (Kd.N_elderB (by (with_reducible repeat (first | apply Kd.N_alloc | apply Kd.N_drewN | apply Kd.N_drew)); exact HO296.out) gb303 (Nat.le_of_eq hg.symm)) hb); have n1_ := Aside0.mk (Kd.R_below (by (with_reducible repeat (first | apply Kd.R_alloc | apply Kd.R_drewN | apply Kd.R_drew)); exact HO300.out) hb); have n2_ := Aside0.mk (blk_below (g := gb291) (o := .cells #[.slice A0_0 l0_0.length c0_0, .slice A0_1 l0_1.length c0_1] 32 (0, 0)) (by (with_reducible repeat (first | refine blk_drewN ?_ _ | refine blk_drew ?_ | refine blk_alloc ?_ _)); exact BK291.out) hb); have n3_ := Aside0.mk (below_step (by repeat (first | (with_reducible first | exact HB.out | apply below_alloc | apply pw_below_drewN | apply below_drew1 | refine below_set ?_ GE291.out) | exact HB.out)) hb); have n4_ := Aside0.mk (hbox); have n5_ := Aside0.mk ((by rw [hg]; exact (below_size (by repeat (first | (with_reducible first | exact HB.out | apply below_alloc | apply pw_below_drewN | apply below_drew1 | refine below_set ?_ GE291.out) | exact HB.out))) : w.heap.size ≤ gb303)); have n6_ := Aside0.mk ((by rw [hg]; exact (below_size (by repeat (first | (with_reducible first | exact HB.out | apply below_alloc | apply pw_below_drewN | apply below_drew1 | refine below_set ?_ GE291.out) | exact HB.out))) : w.heap.size ≤ gb303)); have n7_ := Aside0.mk ((by rw [hg]; exact Nat.ne_of_lt (blk_lt (g := gb291) (o := .cells #[.slice A0_0 l0_0.length c0_0, .slice A0_1 l0_1.length c0_1] 32 (0, 0)) (by (with_reducible repeat (first | refine blk_drewN ?_ _ | refine blk_drew ?_ | refine blk_alloc ?_ _)); exact BK291.out)) : gb291 ≠ gb303)); have n8_ := Aside0.mk ((by rw [hg]; exact Nat.ne_of_gt (blk_lt (g := gb291) (o := .cells #[.slice A0_0 l0_0.length c0_0, .slice A0_1 l0_1.length c0_1] 32 (0, 0)) (by (with_reducible repeat (first | refine blk_drewN ?_ _ | refine blk_drew ?_ | refine blk_alloc ?_ _)); exact BK291.out)) : gb303 ≠ gb291)); clear HO296; clear HO300; clear BK291; clear HB; have HO296 := n0_; have HO300 := n1_; have BK291 := n2_; have HB := n3_; have BK303 := n4_; have GW303 := n5_; have GE303 := n6_; have NB291_303 := n7_; have NB303_291 := n8_; clear n0_ n1_ n2_ n3_ n4_ n5_ n6_ n7_ n8_; clear hb hbox hg; obtain ⟨Ao112, co112, eo112⟩ := Kd.R_slice HO300.out; subst eo112; have hnb113 := NB303_291.out; have hnc113 := NB291_303.out; have hcz114_0 : w111.cell? ⟨gb303, 0, none⟩ = some (.slice none 0 0) := (blk_cell BK303.out 0).trans rfl; have hcz114_1 : w111.cell? ⟨gb303, 1, none⟩ = some (.int .i64 0) := (blk_cell BK303.out 1).trans rfl; have hfz114_0 := blk_frozen BK303.out 0; have hfz114_1 := blk_frozen BK303.out 1; have hcz115_0 : w111.cell? ⟨gb291, 0, none⟩ = some (.slice A0_0 l0_0.length c0_0) := (blk_cell BK291.out 0).trans rfl; have hcz115_1 : w111.cell? ⟨gb291, 1, none⟩ = some (.slice A0_1 l0_1.length c0_1) := (blk_cell BK291.out 1).trans rfl; have hfz115_0 := blk_frozen BK291.out 0; have hfz115_1 := blk_frozen BK291.out 1) | ((with_reducible refine gate_callee (f := 36) rfl ?_); refine goesL_ (some 48) rfl rfl Try.func36 (by kernel_rfl) rfl #[.agg #[.slice A0_0 l0_0.length c0_0, .slice A0_1 l0_1.length c0_1]] rfl (by (try simp only [List.map_toArray, List.map_cons, List.map_nil]); first | done | rfl | (simp only [List.length_drop, List.length_take]; rfl)) ?_; (with_reducible refine (pantileref03_Right.calls _ _ l0_0 _ _ l0_1 false _ ?side1 ?side2 ?side3 ?side4 A25.out).mono ?_); (case side1 => exact Kd.C_below HR0_0.out (by repeat (first | (with_reducible first | exact HB.out | apply below_alloc | apply pw_below_drewN | apply below_drew1 | refine below_set ?_ GE291.out | refine below_set ?_ GE303.out) | exact HB.out))); (case side2 => exact HC0_0.out); (case side3 => exact Kd.C_below HR0_1.out (by repeat (first | (with_reducible first | exact HB.out | apply below_alloc | apply pw_below_drewN | apply below_drew1 | refine below_set ?_ GE291.out | refine below_set ?_ GE303.out) | exact HB.out))); (case side4 => exact HC0_1.out); rintro e w116 ⟨rfl, hb⟩; refine ⟨_, rfl, ?_⟩; have n0_ := Aside0.mk (Kd.N_below (by (with_reducible repeat (first | apply Kd.N_alloc | apply Kd.N_drewN | apply Kd.N_drew)); exact (Kd.N_mono (Kd.N_far (p := ⟨gb303, 1, none⟩) (Kd.N_far (p := ⟨gb303, 0, none⟩) (Kd.N_mono HO296.out (fun k_ hk => (⟨hk, hk.2⟩ : _ ∧ k_ ≠ gb303))) (fun _ hk => hk.2) (.slice Ao112 t298.length co112)) (fun _ hk => hk.2) (.int .i64 t301)) (fun _ h_ => h_.1))) hb); have n1_ := Aside0.mk (Kd.R_below (by (with_reducible repeat (first | apply Kd.R_alloc | apply Kd.R_drewN | apply Kd.R_drew)); exact (Kd.R_mono (Kd.R_far (p := ⟨gb303, 1, none⟩) (Kd.R_far (p := ⟨gb303, 0, none⟩) (Kd.R_types HO300.out BK303.out (by decide)) (fun _ hk => hk.2) (.slice Ao112 t298.length co112)) (fun _ hk => hk.2) (.int .i64 t301)) (fun _ h_ => h_.1))) hb); have n2_ := Aside0.mk (blk_below (g := gb291) (o := .cells #[.slice A0_0 l0_0.length c0_0, .slice A0_1 l0_1.length c0_1] 32 (0, 0)) (by (with_reducible repeat (first | refine blk_drewN ?_ _ | refine blk_drew ?_ | refine blk_alloc ?_ _)); refine blk_far ?_ NB291_303.out _; (with_reducible repeat (first | refine blk_drewN ?_ _ | refine blk_drew ?_ | refine blk_alloc ?_ _)); refine blk_far ?_ NB291_303.out _; (with_reducible repeat (first | refine blk_drewN ?_ _ | refine blk_drew ?_ | refine blk_alloc ?_ _)); exact BK291.out) hb); have n3_ := Aside0.mk (blk_below (g := gb303) (o := .cells #[.slice Ao112 t298.length co112, .int .i64 t301] 89 (0, 0)) (by (with_reducible repeat (first | refine blk_drewN ?_ _ | refine blk_drew ?_ | refine blk_alloc ?_ _)); refine blk_put (cs := #[.slice Ao112 t298.length co112, .int .i64 0]) ?_ 1 _ rfl; (with_reducible repeat (first | refine blk_drewN ?_ _ | refine blk_drew ?_ | refine blk_alloc ?_ _)); refine blk_put (cs := #[.slice none 0 0, .int .i64 0]) ?_ 0 _ rfl; (with_reducible repeat (first | refine blk_drewN ?_ _ | refine blk_drew ?_ | refine blk_alloc ?_ _)); exact BK303.out) hb); have n4_ := Aside0.mk (below_step (by repeat (first | (with_reducible first | exact HB.out | apply below_alloc | apply pw_below_drewN | apply below_drew1 | refine below_set ?_ GE291.out | refine below_set ?_ GE303.out) | exact HB.out)) hb); clear HO296; clear HO300; clear BK291; clear BK303; clear HB; have HO296 := n0_; have HO300 := n1_; have BK291 := n2_; have BK303 := n3_; have HB := n4_; clear n0_ n1_ n2_ n3_ n4_; (try clear hb); (try clear hb2); (try clear hk); (try clear hi); obtain ⟨Ao117, co117, eo117⟩ := Kd.N_slice HO296.out; subst eo117; have hcz118_0 : w116.cell? ⟨gb303, 0, none⟩ = some (.slice Ao112 t298.length co112) := (blk_cell BK303.out 0).trans rfl; have hcz118_1 : w116.cell? ⟨gb303, 1, none⟩ = some (.int .i64 t301) := (blk_cell BK303.out 1).trans rfl; have hfz118_0 := blk_frozen BK303.out 0; have hfz118_1 := blk_frozen BK303.out 1))
            go_ret
            exact ⟨by first | rfl | (simp [errW_none, errW_some] <;> rfl) | (simp [*, errW_none, errW_some] <;> rfl), by repeat (first | (with_reducible first | exact HB.out | apply below_alloc | apply pw_below_drewN | apply below_drew1 | refine below_set ?_ GE291.out | refine below_set ?_ GE303.out) | exact HB.out)⟩
           ·rw [if_neg c106] at H
            have c106b0 : ((t298.length : Int) == 0) = false := beq_eq_false_iff_ne.mpr c106
            have c106b1 : ((t298.length : Int) != 0) = true := bne_iff_ne.mpr c106
            have c106b2 : ¬ (t298 = []) := fun h_ => c106 (by rw [h_]; rfl)
            exact Bool.noConfusion ((Option.some.inj H).trans HRT.out)
          ·rw [if_neg c105] at H
           have c105b0 : (t297 == 2) = false := beq_eq_false_iff_ne.mpr c105
           have c105b1 : (t297 != 2) = true := bne_iff_ne.mpr c105
           exact Bool.noConfusion ((Option.some.inj H).trans HRT.out)
         ·rw [if_neg c104] at H
          have c104b0 : ((t294.length : Int) == 0) = false := beq_eq_false_iff_ne.mpr c104
          have c104b1 : ((t294.length : Int) != 0) = true := bne_iff_ne.mpr c104
          have c104b2 : ¬ (t294 = []) := fun h_ => c104 (by rw [h_]; rfl)
          exact Bool.noConfusion ((Option.some.inj H).trans HRT.out)
 ·replace c4 := Bool.eq_false_iff.mpr c4
  subst c4
  have H1 : (some false) = some r := by rw [if_neg (show ¬ (false = true) by decide)] at H; exact H
  clear H
  have H := H1
  clear H1
  exact Bool.noConfusion ((Option.some.inj H).trans HRT.out)

/-- THE ONE PURE STATEMENT of pantilelaw33_CoverCells: yours. -/
def pantilelaw33_CoverCells.Pure : Prop := ∀ (l0_0 : List Int) (l0_1 : List Int) (a1 : Int), l0_0.length ≤ maxLen → l0_0.length * 8 ≤ 140737488351232 → (∀ x ∈ l0_0, (Lit.int .u64 x).wf = true) → l0_1.length ≤ maxLen → l0_1.length * 8 ≤ 140737488351232 → (∀ x ∈ l0_1, (Lit.int .u64 x).wf = true) → (Lit.int .i64 a1).wf = true → ∃ k, pantilelaw33_CoverCells.f k l0_0 l0_1 a1 = some true
theorem pantilelaw33_CoverCells.walk (P : pantilelaw33_CoverCells.Pure) (a0_0 : Option Addr) (len0_0 cap0_0 : Nat) (z0_0 : List Int) (a0_1 : Option Addr) (len0_1 cap0_1 : Nat) (z0_1 : List Int) (a1 : Int) (w : World) (w0_0 : (a0_0 = none ∧ len0_0 = 0 ∧ cap0_0 = 0 ∧ z0_0 = []) ∨ ∃ x, a0_0 = some x ∧ len0_0 ≤ cap0_0 ∧ cap0_0 ≤ maxLen ∧ z0_0.length = cap0_0 ∧ (∀ i, i < z0_0.length → w.cell? (x.add i) = some (.int .u64 (z0_0.getD i 0))) ∧ ∀ n ∈ z0_0, (Lit.int .u64 n).wf = true) (y0_0 : len0_0 * 8 ≤ 140737488351232) (w0_1 : (a0_1 = none ∧ len0_1 = 0 ∧ cap0_1 = 0 ∧ z0_1 = []) ∨ ∃ x, a0_1 = some x ∧ len0_1 ≤ cap0_1 ∧ cap0_1 ≤ maxLen ∧ z0_1.length = cap0_1 ∧ (∀ i, i < z0_1.length → w.cell? (x.add i) = some (.int .u64 (z0_1.getD i 0))) ∧ ∀ n ∈ z0_1, (Lit.int .u64 n).wf = true) (y0_1 : len0_1 * 8 ≤ 140737488351232) (w1 : (Lit.int .i64 a1).wf = true) :
  Calls Try.prog 14 #[.agg #[.slice a0_0 len0_0 cap0_0, .slice a0_1 len0_1 cap0_1], .int .i64 a1] w fun e w' => e = .returned (.bool true) ∧ Below w.heap.size w w' := by
 obtain ⟨l0_0, rfl, hr0_0, hm0_0, hw0_0, hc0_0⟩ := ReadsInt.ofRowC w0_0
 obtain ⟨l0_1, rfl, hr0_1, hm0_1, hw0_1, hc0_1⟩ := ReadsInt.ofRowC w0_1
 obtain ⟨k, h⟩ := P l0_0 l0_1 a1 hm0_0 y0_0 hw0_0 hm0_1 y0_1 hw0_1 w1
 refine (pantilelaw33_CoverCells.calls k _ _ l0_0 _ _ l0_1 a1 true w (Kd.C_of_reads (d := (0 : Int)) (h1 := fun _ => rfl) hr0_0) hc0_0 (Kd.C_of_reads (d := (0 : Int)) (h1 := fun _ => rfl) hr0_1) hc0_1 rfl h).mono ?_
 rintro e w' ⟨rfl, hd⟩
 exact ⟨rfl, hd⟩

end Go.Proofs.Ythdphjbecibeaaa.PCoverCells
