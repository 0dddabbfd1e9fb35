/-
  What the functions on packed words answer, as plain functions on integers (chapter 1). No program in sight.
-/
import Derived.Test.YtkeipanehjjmdaaWMath
namespace Go.Proofs.Ytkeipanehjjmdaa.WM
open Go.RowKit

/-- Pack: the word; the error. -/
def pkV (i t : Int) : Int := if 0 ≤ i ∧ i ≤ 1048575 ∧ 0 ≤ t ∧ t ≤ 1099511627775 then i * 1099511627776 + t else 0
def pkE (i t : Int) : Int := if 0 ≤ i ∧ i ≤ 1048575 then (if 0 ≤ t ∧ t ≤ 1099511627775 then 0 else 11) else 10
/-- Index, Tag. -/
def ixV (w : Int) : Int := if 0 ≤ w ∧ w < 1152921504606846976 then w / 1099511627776 else 0
def tgV (w : Int) : Int := if 0 ≤ w ∧ w < 1152921504606846976 then w % 1099511627776 else 0
/-- Next. -/
def nxV (w i : Int) : Int := if 0 ≤ i ∧ i ≤ 1048575 ∧ 0 ≤ w ∧ w < 1152921504606846976 then i * 1099511627776 + (w % 1099511627776 + 1) % 1099511627776 else 0
def nxE (w i : Int) : Int := if 0 ≤ i ∧ i ≤ 1048575 then (if 0 ≤ w ∧ w < 1152921504606846976 then 0 else 11) else 10
/-- Part. -/
def ptV (k n : Int) : Int := if 0 ≤ k ∧ k ≤ 4294967295 ∧ 1 ≤ n ∧ n ≤ 64 then k * n / 4294967296 else 0
def ptE (k n : Int) : Int := if 0 ≤ k ∧ k ≤ 4294967295 then (if 1 ≤ n ∧ n ≤ 64 then 0 else 13) else 12
/-- Range: where part p of n begins. -/
def bgV (p n : Int) : Int := (p * 4294967296 + n - 1) / n
def rgL (p n : Int) : Int := if 1 ≤ n ∧ n ≤ 64 ∧ 0 ≤ p ∧ p < n then bgV p n else 0
def rgH (p n : Int) : Int := if 1 ≤ n ∧ n ≤ 64 ∧ 0 ≤ p ∧ p < n then bgV (p + 1) n - 1 else 0
def rgE (p n : Int) : Int := if 1 ≤ n ∧ n ≤ 64 ∧ 0 ≤ p ∧ p < n then 0 else 13
/-- Bit. -/
def btV (k p : Int) : Int := if 0 ≤ k ∧ k ≤ 4294967295 ∧ 0 ≤ p ∧ p ≤ 31 then k / 2 ^ p.toNat % 2 else 0
def btE (k p : Int) : Int := if 0 ≤ k ∧ k ≤ 4294967295 ∧ 0 ≤ p ∧ p ≤ 31 then 0 else 12
/-- How many bits a number has. -/
def blen (x : Nat) : Nat := if x = 0 then 0 else Nat.log2 x + 1
/-- Place. -/
def plV (a b : Int) : Int := if 0 ≤ a ∧ a ≤ 4294967295 ∧ 0 ≤ b ∧ b ≤ 4294967295 then (blen (a.toNat ^^^ b.toNat) : Int) - 1 else 0
def plE (a b : Int) : Int := if 0 ≤ a ∧ a ≤ 4294967295 ∧ 0 ≤ b ∧ b ≤ 4294967295 then 0 else 12

theorem orPack (i t : Int) (h1 : 0 ≤ i) (h2 : i ≤ 1048575) (h3 : 0 ≤ t) (h4 : t ≤ 1099511627775) : bits .or .i64 (i * 1099511627776) t = i * 1099511627776 + t := by
  obtain ⟨a, rfl⟩ := Int.eq_ofNat_of_zero_le h1
  obtain ⟨b, rfl⟩ := Int.eq_ofNat_of_zero_le h3
  have e : ((a : Int) * 1099511627776) = ((a * 1099511627776 : Nat) : Int) := by omega
  rw [e, or64 _ _ (by omega) (by omega), nat_join 40 _ _ (by omega) (by omega)]
  omega
theorem andTag (x : Int) (h1 : 0 ≤ x) (h2 : x < 9223372036854775808) : bits .and .i64 x 1099511627775 = x % 1099511627776 := by
  obtain ⟨a, rfl⟩ := Int.eq_ofNat_of_zero_le h1
  have e : (1099511627775 : Int) = ((1099511627775 : Nat) : Int) := rfl
  rw [e, and64 _ _ (by omega) (by omega), nat_mask40]
  omega
theorem and1 (x : Int) (h1 : 0 ≤ x) (h2 : x < 9223372036854775808) : bits .and .i64 x 1 = x % 2 := by
  obtain ⟨a, rfl⟩ := Int.eq_ofNat_of_zero_le h1
  have e : (1 : Int) = ((1 : Nat) : Int) := rfl
  rw [e, and64 _ _ (by omega) (by omega), nat_mask1]
  omega
theorem ret1 {a b : Int} (h : a = b) : Ending.returned (.int .i64 a) = .returned (.int .i64 b) := by rw [h]
theorem ret2 {a b c d : Int} (h : a = b) (h2 : c = d) : Ending.returned (.tuple #[.int .i64 a, .int .i64 c]) = .returned (.tuple #[.int .i64 b, .int .i64 d]) := by rw [h, h2]
theorem ret3 {a b c d x y : Int} (h : a = b) (h2 : c = d) (h3 : x = y) : Ending.returned (.tuple #[.int .i64 a, .int .i64 c, .int .i64 x]) = .returned (.tuple #[.int .i64 b, .int .i64 d, .int .i64 y]) := by rw [h, h2, h3]
end Go.Proofs.Ytkeipanehjjmdaa.WM
