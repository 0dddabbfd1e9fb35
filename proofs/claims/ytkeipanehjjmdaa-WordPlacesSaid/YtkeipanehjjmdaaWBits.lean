/-
  How many bits a number has; halving. No program in sight.
-/
import Derived.Test.YtkeipanehjjmdaaWSpec
namespace Go.Proofs.Ytkeipanehjjmdaa.WM
open Go.RowKit
theorem blen_le (x k : Nat) : blen x ≤ k ↔ x < 2 ^ k := by
  unfold blen
  split
  · next h => subst h; simp [Nat.two_pow_pos]
  · next h => rw [← Nat.log2_lt h]; omega
theorem blen_half (x : Nat) (h : 0 < x) : blen (x / 2) + 1 = blen x := by
  have h1 := blen_le (x / 2) (blen (x / 2))
  have h2 := blen_le x (blen (x / 2) + 1)
  have h3 := blen_le x (blen x - 1 + 1)
  have h4 := blen_le (x / 2) (blen x - 1)
  have h0 := blen_le x 0
  simp only [Nat.pow_succ, Nat.pow_zero] at *
  omega
theorem blen_zero : blen 0 = 0 := rfl
theorem blen_byte (x : Nat) (h : 256 ≤ x) : blen (x / 256) + 8 = blen x := by
  have e : x / 256 = x / 2 / 2 / 2 / 2 / 2 / 2 / 2 / 2 := by omega
  rw [e]
  have h1 := blen_half x (by omega)
  have h2 := blen_half (x / 2) (by omega)
  have h3 := blen_half (x / 2 / 2) (by omega)
  have h4 := blen_half (x / 2 / 2 / 2) (by omega)
  have h5 := blen_half (x / 2 / 2 / 2 / 2) (by omega)
  have h6 := blen_half (x / 2 / 2 / 2 / 2 / 2) (by omega)
  have h7 := blen_half (x / 2 / 2 / 2 / 2 / 2 / 2) (by omega)
  have h8 := blen_half (x / 2 / 2 / 2 / 2 / 2 / 2 / 2) (by omega)
  omega
theorem blen_pos (x : Nat) : 0 < blen x ↔ 0 < x := by
  have := blen_le x 0
  simp only [Nat.pow_zero] at this
  omega
/-- x, halved m times. -/
def sh (x m : Nat) : Nat := x / 2 ^ m
theorem sh_zero (x : Nat) : sh x 0 = x := by simp [sh]
theorem sh_succ (x m : Nat) : ((sh x m : Nat) : Int) / 2 = ((sh x (m + 1) : Nat) : Int) := by
  have : sh x (m + 1) = sh x m / 2 := by unfold sh; rw [Nat.pow_succ, Nat.div_div_eq_div_mul]
  rw [this]; omega
theorem sh_le (x m : Nat) : sh x m ≤ x := Nat.div_le_self _ _
theorem sh_ne (x y m : Nat) : sh x m = sh y m ↔ blen (x ^^^ y) ≤ m := by
  rw [blen_le]
  have e : sh x m ^^^ sh y m = sh (x ^^^ y) m := by
    unfold sh
    rw [← Nat.shiftRight_eq_div_pow, ← Nat.shiftRight_eq_div_pow, ← Nat.shiftRight_eq_div_pow, Nat.shiftRight_xor_distrib]
  have z : sh (x ^^^ y) m = 0 ↔ x ^^^ y < 2 ^ m := by
    unfold sh
    rw [Nat.div_eq_zero_iff]
    have := Nat.two_pow_pos m
    omega
  rw [← z, ← e]
  constructor
  · intro h; rw [h, Nat.xor_self]
  · intro h
    have := congrArg (· ^^^ sh y m) h
    simpa [Nat.xor_assoc] using this
theorem shI (k : Nat) (p : Nat) : (k : Int) / 2 ^ p = ((sh k p : Nat) : Int) := by unfold sh; rw [Int.natCast_ediv]; simp
end Go.Proofs.Ytkeipanehjjmdaa.WM
