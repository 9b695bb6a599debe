/- The program's Cut, as printed, in plain numbers. -/
import Derived.Test.YthdphjbecibeaaaMc
import Derived.Test.YthdphjbecibeaaaFlMaskLeft
namespace Go.Proofs.Ythdphjbecibeaaa.FMaskLeft
open Go.RowKit Go.Proofs.Ythdphjbecibeaaa.PMaskLeft Go.Proofs.YthdphjbecibeaaaW.PrintWords Go.Proofs.YthdphjbecibeaaaW.PrintLast Go.Proofs.YthdphjbecibeaaaW.PrintMore Go.Proofs.YthdphjbecibeaaaMz
set_option linter.unusedVariables false
set_option linter.unusedSimpArgs false

/-- a list of coordinates, each cut -/
def cutL (p : List Int) (m : Nat) : List Int := p.map fun x => ((cutv x.toNat m : Nat) : Int)

theorem cutL_length (p : List Int) (m : Nat) : (cutL p m).length = p.length := List.length_map _

theorem cutL_getD (p : List Int) (m i : Nat) : (cutL p m).getD i 0 = ((cutv (nt p i) m : Nat) : Int) := by
  unfold cutL nt
  rw [List.getD_eq_getElem?_getD, List.getD_eq_getElem?_getD, List.getElem?_map]
  cases p[i]? with
  | none => simp [cutv]
  | some x => rfl

theorem nt_cutL (p : List Int) (m i : Nat) : nt (cutL p m) i = cutv (nt p i) m := by
  unfold nt
  rw [cutL_getD]
  simp [nt]

theorem cutL_U {p : List Int} (hp : U p) (m : Nat) : U (cutL p m) := by
  intro x hx
  obtain ⟨y, hy, rfl⟩ := List.mem_map.1 hx
  have := wf_u64 (hp y hy)
  have := cutv_le y.toNat m
  exact wf_u64_mk (by omega) (by omega)

theorem set_at {a b : List Int} {x y : Int} : (a ++ x :: b).set a.length y = a ++ y :: b := by
  rw [List.set_append_right _ _ (Nat.le_refl _)]
  simp

/-- two points part at a level, or below, just if they are the same, cut there -/
theorem part_le_iff {p q : List Int} (hp : U p) (hq : U q) (hl : p.length = q.length) (m : Nat) : partN (nt p) (nt q) p.length 64 ≤ (m : Int) - 1 ↔ cutL p m = cutL q m := by
  rw [Part_blen hp hq, same_iff (cutL_U hp m) (cutL_U hq m) (by rw [cutL_length, cutL_length, hl]), cutL_length]
  have h := blen_le_iff (orxN (nt p) (nt q) p.length) m
  have h2 := orxN_le (nt p) (nt q) p.length m
  constructor
  · intro hb i hi
    rw [nt_cutL, nt_cutL]
    exact (cutv_eq_iff _ _ _).2 (h2.1 (h.1 (by omega)) i hi)
  · intro hs
    have := h.2 (h2.2 (fun i hi => by
      have := hs i hi
      rw [nt_cutL, nt_cutL] at this
      exact (cutv_eq_iff _ _ _).1 this))
    omega

end Go.Proofs.Ythdphjbecibeaaa.FMaskLeft
