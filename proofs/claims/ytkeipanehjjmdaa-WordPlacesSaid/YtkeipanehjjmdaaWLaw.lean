/-
  The plain laws of packed words, keys, places and parts. No program in sight.
-/
import Derived.Test.YtkeipanehjjmdaaWBits
import Derived.Lib.Hide
namespace Go.Proofs.Ytkeipanehjjmdaa.WM
open Go.RowKit
theorem pk_back (w : Int) (h : 0 ≤ w ∧ w < 1152921504606846976) : pkV (ixV w) (tgV w) = w ∧ pkE (ixV w) (tgV w) = 0 := by
  have e1 : ixV w = w / 1099511627776 := by rw [ixV, if_pos h]
  have e2 : tgV w = w % 1099511627776 := by rw [tgV, if_pos h]
  rw [e1, e2, pkV, pkE, if_pos (by omega), if_pos (by omega), if_pos (by omega)]
  omega
theorem ix_bd (w : Int) : 0 ≤ ixV w ∧ ixV w ≤ 1048575 := by unfold ixV; split <;> omega
theorem ix_lt (w v : Int) (h : 0 ≤ w ∧ w < 1152921504606846976) (h2 : 0 ≤ v ∧ v < 1152921504606846976) (hlt : ixV w < ixV v) : w < v := by
  rw [ixV, ixV, if_pos h, if_pos h2] at hlt; omega
/-- One Next: what WordBack asks of it. -/
theorem nx_back (x w j i : Int) (k : Nat) (hx : 0 ≤ x ∧ x < 1152921504606846976) (hj : 0 ≤ j ∧ j ≤ 1048575) (hw : 0 ≤ w ∧ w < 1152921504606846976)
    (ht : x % 1099511627776 = (w + k) % 1099511627776) (hi : i = (k : Int) + 1) :
    nxE x j = 0 ∧ (nxV x j == x) = false ∧ ixV (nxV x j) = j ∧ tgV (nxV x j) = (tgV w + i) % 1099511627776 ∧ (0 ≤ nxV x j ∧ nxV x j < 1152921504606846976) ∧ nxV x j % 1099511627776 = (w + (k + 1 : Nat)) % 1099511627776 := by
  have e : nxV x j = j * 1099511627776 + (x % 1099511627776 + 1) % 1099511627776 := by rw [nxV, if_pos (by omega)]
  have hb : 0 ≤ nxV x j ∧ nxV x j < 1152921504606846976 := by rw [e]; omega
  refine ⟨by rw [nxE, if_pos hj, if_pos hx], ?_, ?_, ?_, hb, ?_⟩
  · rw [beq_eq_false_iff_ne, e]; omega
  · rw [ixV, if_pos hb, e]; omega
  · rw [tgV, if_pos hb, tgV, if_pos hw, e]; omega
  · rw [e]; omega
/-! parts -/
theorem pt_mono (k o n : Int) (h : k ≤ o) (hk : 0 ≤ k ∧ k ≤ 4294967295) (ho : 0 ≤ o ∧ o ≤ 4294967295) (hn : 1 ≤ n ∧ n ≤ 64) : ptV k n ≤ ptV o n := by
  rw [ptV, ptV, if_pos (by omega), if_pos (by omega)]
  exact Int.ediv_le_ediv (by omega) (Int.mul_le_mul_of_nonneg_right h (by omega))
theorem bg_le (i k n : Int) (hn : 1 ≤ n) : bgV i n ≤ k ↔ i ≤ k * n / 4294967296 := by
  unfold bgV
  rw [Int.le_ediv_iff_mul_le (by omega)]
  constructor
  · intro h
    have : i * 4294967296 + n - 1 < (k + 1) * n := (Int.ediv_lt_iff_lt_mul (by omega)).1 (by omega)
    have e3 : (k + 1) * n = k * n + n := by rw [Int.add_mul]; omega
    omega
  · intro h
    have e3 : (k + 1) * n = k * n + n := by rw [Int.add_mul]; omega
    have := (Int.ediv_lt_iff_lt_mul (a := i * 4294967296 + n - 1) (b := k + 1) (c := n) (by omega)).2 (by omega)
    omega
theorem bg_zero (n : Int) (hn : 1 ≤ n) : bgV 0 n = 0 := by unfold bgV; exact Int.ediv_eq_zero_of_lt (by omega) (by omega)
theorem bg_end (n : Int) (hn : 1 ≤ n) : bgV n n = 4294967296 := by
  unfold bgV
  have : n * 4294967296 + n - 1 = (n - 1) + n * 4294967296 := by omega
  rw [this, Int.add_mul_ediv_left _ _ (by omega), Int.ediv_eq_zero_of_lt (by omega) (by omega)]; omega
theorem bg_lt (i n : Int) (hn : 1 ≤ n ∧ n ≤ 64) : bgV i n < bgV (i + 1) n := by
  have h1 := (bg_le (i + 1) (bgV (i + 1) n) n hn.1).1 (by omega)
  have h2 := (bg_le i (bgV (i + 1) n - 1) n hn.1).2 (by
    rw [Int.le_ediv_iff_mul_le (by omega)] at *
    have e3 : (bgV (i + 1) n - 1) * n = bgV (i + 1) n * n - n := by rw [Int.sub_mul]; omega
    rw [e3]; omega)
  omega
theorem in_part (k i n : Int) (hk : 0 ≤ k ∧ k ≤ 4294967295) (hn : 1 ≤ n ∧ n ≤ 64) : (bgV i n ≤ k ∧ k ≤ bgV (i + 1) n - 1) ↔ i = ptV k n := by
  rw [ptV, if_pos (by omega), bg_le i k n hn.1]
  have := bg_le (i + 1) k n hn.1
  omega
/-! places -/
theorem blen_xor_le (x y : Nat) : blen (x ^^^ y) ≤ max (blen x) (blen y) := by
  rw [blen_le]
  exact Nat.xor_lt_two_pow (by rw [← blen_le]; omega) (by rw [← blen_le]; omega)
theorem blen_tri (a b c : Nat) : blen (a ^^^ c) ≤ max (blen (a ^^^ b)) (blen (b ^^^ c)) := by
  have e : a ^^^ c = (a ^^^ b) ^^^ (b ^^^ c) := by
    rw [Nat.xor_assoc, ← Nat.xor_assoc b b c, Nat.xor_self, Nat.zero_xor]
  rw [e]; exact blen_xor_le _ _
theorem sh_half (a m : Nat) : sh a m = 2 * sh a (m + 1) + sh a m % 2 := by
  have : sh a (m + 1) = sh a m / 2 := by unfold sh; rw [Nat.pow_succ, Nat.div_div_eq_div_mul]
  omega
theorem sh_mono (a b m : Nat) (h : a ≤ b) : sh a m ≤ sh b m := Nat.div_le_div_right h
/-- The bits of two keys above and at their place. -/
theorem bits_above (a b m : Nat) (h : blen (a ^^^ b) ≤ m) : sh a m % 2 = sh b m % 2 := by rw [(sh_ne a b m).2 h]
theorem bits_at (a b m : Nat) (h : blen (a ^^^ b) = m + 1) : sh a m % 2 ≠ sh b m % 2 ∧ (sh a m % 2 < sh b m % 2 ↔ a < b) := by
  have h1 := (sh_ne a b (m + 1)).2 (by omega)
  have h2 := sh_ne a b m
  have ea := sh_half a m
  have eb := sh_half b m
  have hm1 := sh_mono a b m
  have hm2 := sh_mono b a m
  omega
end Go.Proofs.Ytkeipanehjjmdaa.WM
