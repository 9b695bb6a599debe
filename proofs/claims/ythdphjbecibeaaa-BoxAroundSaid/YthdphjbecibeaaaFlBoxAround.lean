/- bits.Len64, as printed, is the number of bits. -/
import Derived.Test.YthdphjbecibeaaaFzBoxAround
namespace Go.Proofs.Ythdphjbecibeaaa.FBoxAround
open Go.RowKit Go.Proofs.Ythdphjbecibeaaa.PBoxAround Go.Proofs.YthdphjbecibeaaaW.PrintWords Go.Proofs.YthdphjbecibeaaaW.PrintLast Go.Proofs.YthdphjbecibeaaaW.PrintMore Go.Proofs.YthdphjbecibeaaaMz
set_option linter.unusedVariables false
set_option linter.unusedSimpArgs false

theorem Part_blen {p q : List Int} (hp : U p) (hq : U q) : partN (nt p) (nt q) p.length 64 = (blen (orxN (nt p) (nt q) p.length) : Int) - 1 :=
  partN_eq _ _ _ _ (orxN_lt (fun j _ => nt_lt' hp j) (fun j _ => nt_lt' hq j))

theorem blen_lt {n m : Nat} (h : n < 2 ^ m) : blen n ≤ m := blen_le h

/-! the reference's Part -/
theorem refPart_loop {p q : List Int} (hp : U p) (hq : U q) (hl : p.length = q.length) (h40 : p.length ≤ 40) (m : Nat) (hm : m ≤ 64) : ∀ (k : Nat), m + 60 < k →
    pantileref01_Part.l0 k p q ((m : Int) - 1) = some (partN (nt p) (nt q) p.length m) := by
  induction m with
  | zero =>
    intro k hk
    obtain ⟨k, rfl⟩ : ∃ m, k = m + 1 := ⟨k - 1, by omega⟩
    simp only [pantileref01_Part.l0]
    rw [if_neg (by omega)]
    rfl
  | succ m ih =>
    intro k hk
    obtain ⟨k, rfl⟩ : ∃ m, k = m + 1 := ⟨k - 1, by omega⟩
    simp only [pantileref01_Part.l0]
    rw [show (((m + 1 : Nat) : Int) - 1) = (m : Int) from by omega, if_pos (by omega), refAddr_eq hp h40 (by omega) (by omega), refAddr_eq hq (by omega) (by omega) (by omega)]
    simp only [Option.bind_some, Int.toNat_natCast]
    unfold partN
    rw [← hl]
    by_cases he : addrN (nt p) m p.length = addrN (nt q) m p.length
    · rw [if_pos (by omega), if_pos he, wrap64_id (by omega) (by omega)]
      exact ih (by omega) k (by omega)
    · rw [if_neg (by omega), if_neg he]

theorem refPart_eq {p q : List Int} (hp : U p) (hq : U q) (hl : p.length = q.length) (h40 : p.length ≤ 40) {k : Nat} (hk : 130 ≤ k) :
    pantileref01_Part.f k p q = some (partN (nt p) (nt q) p.length 64) := refPart_loop hp hq hl h40 64 (by omega) k (by omega)

end Go.Proofs.Ythdphjbecibeaaa.FBoxAround
