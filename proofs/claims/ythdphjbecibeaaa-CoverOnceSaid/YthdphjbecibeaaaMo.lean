/- How many bits of a number below 65536 are 1: by the adding up that math/bits does; gone through by the kernel. -/
import Derived.Test.YthdphjbecibeaaaMm
namespace Go.Proofs.YthdphjbecibeaaaMz
set_option linter.unusedVariables false
set_option linter.unusedSimpArgs false

def pc8 (x : Nat) : Nat := x % 2 + x / 2 % 2 + x / 4 % 2 + x / 8 % 2 + x / 16 % 2 + x / 32 % 2 + x / 64 % 2 + x / 128 % 2
def oq1 (x : Nat) : Nat := (x / 2 &&& 6148914691236517205) + (x &&& 6148914691236517205)
def oq2 (x : Nat) : Nat := (x / 4 &&& 3689348814741910323) + (x &&& 3689348814741910323)
def oq3 (x : Nat) : Nat := (x / 16 + x) &&& 1085102592571150095
def ot1 (x : Nat) : Nat := x + x / 256
def ot2 (x : Nat) : Nat := x + x / 65536
def ot3 (x : Nat) : Nat := x + x / 4294967296
def oall (x : Nat) : Nat := ot3 (ot2 (ot1 (oq3 (oq2 (oq1 x))))) &&& 127
def oone (x : Nat) : Bool := Nat.beq (oall x) (pc8 (x % 256) + pc8 (x / 256))
theorem ones_0 : (List.range 32).all (fun a => (List.range 256).all (fun b => oone (256 * (0 + a) + b))) = true := by decide +kernel
theorem ones_1 : (List.range 32).all (fun a => (List.range 256).all (fun b => oone (256 * (32 + a) + b))) = true := by decide +kernel
theorem ones_2 : (List.range 32).all (fun a => (List.range 256).all (fun b => oone (256 * (64 + a) + b))) = true := by decide +kernel
theorem ones_3 : (List.range 32).all (fun a => (List.range 256).all (fun b => oone (256 * (96 + a) + b))) = true := by decide +kernel
theorem ones_4 : (List.range 32).all (fun a => (List.range 256).all (fun b => oone (256 * (128 + a) + b))) = true := by decide +kernel
theorem ones_5 : (List.range 32).all (fun a => (List.range 256).all (fun b => oone (256 * (160 + a) + b))) = true := by decide +kernel
theorem ones_6 : (List.range 32).all (fun a => (List.range 256).all (fun b => oone (256 * (192 + a) + b))) = true := by decide +kernel
theorem ones_7 : (List.range 32).all (fun a => (List.range 256).all (fun b => oone (256 * (224 + a) + b))) = true := by decide +kernel

theorem ones_part {j : Nat} (h : (List.range 32).all (fun a => (List.range 256).all (fun b => oone (256 * (j + a) + b))) = true) (x : Nat) (h1 : j ≤ x / 256) (h2 : x / 256 < j + 32) : oall x = pc8 (x % 256) + pc8 (x / 256) := by
  have h3 := List.all_eq_true.1 h (x / 256 - j) (List.mem_range.2 (by omega))
  have h4 := List.all_eq_true.1 h3 (x % 256) (List.mem_range.2 (by omega))
  have e : 256 * (j + (x / 256 - j)) + x % 256 = x := by omega
  rw [e] at h4
  exact Nat.eq_of_beq_eq_true h4

theorem ones_all (x : Nat) (hx : x < 65536) : oall x = pc8 (x % 256) + pc8 (x / 256) := by
  rcases Nat.lt_or_ge (x / 256) 128 with h | h
  · rcases Nat.lt_or_ge (x / 256) 64 with h1 | h1
    · rcases Nat.lt_or_ge (x / 256) 32 with h2 | h2
      · exact ones_part (j := 0) ones_0 x (by omega) (by omega)
      · exact ones_part (j := 32) ones_1 x (by omega) (by omega)
    · rcases Nat.lt_or_ge (x / 256) 96 with h2 | h2
      · exact ones_part (j := 64) ones_2 x (by omega) (by omega)
      · exact ones_part (j := 96) ones_3 x (by omega) (by omega)
  · rcases Nat.lt_or_ge (x / 256) 192 with h1 | h1
    · rcases Nat.lt_or_ge (x / 256) 160 with h2 | h2
      · exact ones_part (j := 128) ones_4 x (by omega) (by omega)
      · exact ones_part (j := 160) ones_5 x (by omega) (by omega)
    · rcases Nat.lt_or_ge (x / 256) 224 with h2 | h2
      · exact ones_part (j := 192) ones_6 x (by omega) (by omega)
      · exact ones_part (j := 224) ones_7 x (by omega) (by omega)

/-- how many of the lowest n bits are 1 -/
def pcN (x : Nat) : Nat → Nat
  | 0 => 0
  | n + 1 => pcN x n + bt1 x n

theorem pc8_lo (x : Nat) : pc8 (x % 256) = bt1 x 0 + bt1 x 1 + bt1 x 2 + bt1 x 3 + bt1 x 4 + bt1 x 5 + bt1 x 6 + bt1 x 7 := by
  have h0 : x % 256 % 2 = bt1 x 0 := by
    unfold bt1
    omega
  have h1 : x % 256 / 2 % 2 = bt1 x 1 := by
    unfold bt1
    omega
  have h2 : x % 256 / 4 % 2 = bt1 x 2 := by
    unfold bt1
    omega
  have h3 : x % 256 / 8 % 2 = bt1 x 3 := by
    unfold bt1
    omega
  have h4 : x % 256 / 16 % 2 = bt1 x 4 := by
    unfold bt1
    omega
  have h5 : x % 256 / 32 % 2 = bt1 x 5 := by
    unfold bt1
    omega
  have h6 : x % 256 / 64 % 2 = bt1 x 6 := by
    unfold bt1
    omega
  have h7 : x % 256 / 128 % 2 = bt1 x 7 := by
    unfold bt1
    omega
  unfold pc8
  rw [h0, h1, h2, h3, h4, h5, h6, h7]

theorem pc8_hi (x : Nat) : pc8 (x / 256) = bt1 x 8 + bt1 x 9 + bt1 x 10 + bt1 x 11 + bt1 x 12 + bt1 x 13 + bt1 x 14 + bt1 x 15 := by
  have h0 : x / 256 % 2 = bt1 x 8 := by
    unfold bt1
    omega
  have h1 : x / 256 / 2 % 2 = bt1 x 9 := by
    unfold bt1
    omega
  have h2 : x / 256 / 4 % 2 = bt1 x 10 := by
    unfold bt1
    omega
  have h3 : x / 256 / 8 % 2 = bt1 x 11 := by
    unfold bt1
    omega
  have h4 : x / 256 / 16 % 2 = bt1 x 12 := by
    unfold bt1
    omega
  have h5 : x / 256 / 32 % 2 = bt1 x 13 := by
    unfold bt1
    omega
  have h6 : x / 256 / 64 % 2 = bt1 x 14 := by
    unfold bt1
    omega
  have h7 : x / 256 / 128 % 2 = bt1 x 15 := by
    unfold bt1
    omega
  unfold pc8
  rw [h0, h1, h2, h3, h4, h5, h6, h7]

theorem pcN_16 (x : Nat) : pcN x 16 = pc8 (x % 256) + pc8 (x / 256) := by
  rw [pc8_lo, pc8_hi]
  simp only [pcN]
  omega

theorem ones_pcN (x : Nat) (hx : x < 65536) : oall x = pcN x 16 := (ones_all x hx).trans (pcN_16 x).symm

theorem pcN_le (x n : Nat) : pcN x n ≤ n := by
  induction n with
  | zero => simp [pcN]
  | succ n ih =>
    have := bt1_lt x n
    unfold pcN
    omega

end Go.Proofs.YthdphjbecibeaaaMz
