/-
  The plain laws of places: the bits of two keys at and above their place; places of three keys. No program in sight.
-/
import Derived.Test.YtkeipanehjjmdaaWLaw
namespace Go.Proofs.Ytkeipanehjjmdaa.WM
open Go.RowKit
theorem xor_zero_iff (a b : Nat) : a ^^^ b = 0 ↔ a = b := by
  constructor
  · intro h
    have := congrArg (· ^^^ b) h
    simpa [Nat.xor_assoc] using this
  · intro h; rw [h, Nat.xor_self]
theorem pl_nat (a b : Nat) (ha : a ≤ 4294967295) (hb : b ≤ 4294967295) : plV a b = (blen (a ^^^ b) : Int) - 1 := by
  rw [plV, if_pos (by omega), Int.toNat_natCast, Int.toNat_natCast]
theorem pl_bd (a b : Nat) (ha : a ≤ 4294967295) (hb : b ≤ 4294967295) : -1 ≤ plV a b ∧ plV a b ≤ 31 := by
  have hlt : a ^^^ b < 2 ^ 32 := Nat.xor_lt_two_pow (by omega) (by omega)
  have := (blen_le (a ^^^ b) 32).2 hlt
  rw [pl_nat a b ha hb]; omega
theorem pl_sym (a b : Nat) (ha : a ≤ 4294967295) (hb : b ≤ 4294967295) : plV b a = plV a b := by
  rw [pl_nat a b ha hb, pl_nat b a hb ha, Nat.xor_comm]
theorem pl_none (a b : Nat) (ha : a ≤ 4294967295) (hb : b ≤ 4294967295) : plV a b = -1 ↔ a = b := by
  rw [pl_nat a b ha hb]
  have h := blen_pos (a ^^^ b)
  have e : a ^^^ b = 0 ↔ a = b := xor_zero_iff a b
  omega
theorem pl_tri (a b c : Nat) (ha : a ≤ 4294967295) (hb : b ≤ 4294967295) (hc : c ≤ 4294967295) :
    (plV a b = plV b c ∧ plV a c ≤ plV a b) ∨ (plV b c = plV a c ∧ plV a b ≤ plV b c) ∨ (plV a b = plV a c ∧ plV b c ≤ plV a b) := by
  rw [pl_nat a b ha hb, pl_nat b c hb hc, pl_nat a c ha hc]
  have h1 := blen_tri a b c
  have h2 := blen_tri b a c
  have h3 := blen_tri a c b
  rw [Nat.xor_comm b a] at h2
  rw [Nat.xor_comm c b] at h3
  omega
theorem bt_nat (a m : Nat) (ha : a ≤ 4294967295) (hm : m < 32) : btV a m = ((sh a m % 2 : Nat) : Int) := by
  rw [btV, if_pos (by omega), Int.toNat_natCast, shI]; omega
theorem place_above (a b m : Nat) (ha : a ≤ 4294967295) (hb : b ≤ 4294967295) (hm : m < 32) (h : plV a b < m) : btV a m = btV b m := by
  rw [pl_nat a b ha hb] at h
  rw [bt_nat a m ha hm, bt_nat b m hb hm, bits_above a b m (by omega)]
theorem place_at (a b m : Nat) (ha : a ≤ 4294967295) (hb : b ≤ 4294967295) (hm : m < 32) (h : plV a b = m) : btV a m ≠ btV b m ∧ (btV a m < btV b m ↔ a < b) := by
  rw [pl_nat a b ha hb] at h
  have := bits_at a b m (by omega)
  rw [bt_nat a m ha hm, bt_nat b m hb hm]
  omega
end Go.Proofs.Ytkeipanehjjmdaa.WM
