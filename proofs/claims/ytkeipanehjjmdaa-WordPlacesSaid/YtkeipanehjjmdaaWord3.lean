/-
  The contracts of Range (the program's, whose closure reads a captured variable, and the reference's) and of the reference's search for a part's first key.
-/
import Derived.Test.YtkeipanehjjmdaaWord2
import Derived.Lib.Hide
namespace Go.Proofs.Ytkeipanehjjmdaa
open Go.RowKit WM
theorem bg_bd (p n : Int) (h1 : 1 ≤ n) (h2 : 0 ≤ p) (h3 : p ≤ n) : 0 ≤ bgV p n ∧ bgV p n ≤ 4294967296 := by
  unfold bgV
  refine ⟨Int.ediv_nonneg (by omega) (by omega), ?_⟩
  have : (p * 4294967296 + n - 1) / n < 4294967297 := (Int.ediv_lt_iff_lt_mul (by omega)).2 (by omega)
  omega
set_option maxHeartbeats 400000 in
theorem range_any (p n : Int) (w : World) :
    Calls Try.prog 34 #[.int .i64 p, .int .i64 n] w fun e w' => e = .returned (.tuple #[.int .i64 (rgL p n), .int .i64 (rgH p n), .int .i64 (rgE p n)]) ∧ Below w.heap.size w w' := by
  by_cases h1 : 1 ≤ n
  · by_cases h2 : n ≤ 64
    · by_cases h3 : 0 ≤ p
      · by_cases h4 : p < n
        · have hb1 := bg_bd p n h1 h3 (by omega)
          have hb2 := bg_bd (p + 1) n h1 (by omega) (by omega)
          obtain ⟨b1, b2⟩ := hb1
          obtain ⟨b3, b4⟩ := hb2
          unfold bgV at b1 b2 b3 b4
          go_enter Try.func34, Try.ntmps34
          go_wp2
          go_ret3
          exact ⟨ret3 (by rw [rgL, if_pos ⟨h1, h2, h3, h4⟩, bgV]) (by rw [rgH, if_pos ⟨h1, h2, h3, h4⟩, bgV]) (by rw [rgE, if_pos ⟨h1, h2, h3, h4⟩]), (Below.refl _ _).alloc (Nat.le_refl _) _⟩
        · go_enter Try.func34, Try.ntmps34
          go_wp2
          go_ret3
          exact ⟨ret3 (by rw [rgL, if_neg (by omega)]) (by rw [rgH, if_neg (by omega)]) (by rw [rgE, if_neg (by omega)]), (Below.refl _ _).alloc (Nat.le_refl _) _⟩
      · go_enter Try.func34, Try.ntmps34
        go_wp2
        go_ret3
        exact ⟨ret3 (by rw [rgL, if_neg (by omega)]) (by rw [rgH, if_neg (by omega)]) (by rw [rgE, if_neg (by omega)]), (Below.refl _ _).alloc (Nat.le_refl _) _⟩
    · go_enter Try.func34, Try.ntmps34
      go_wp2
      go_ret3
      exact ⟨ret3 (by rw [rgL, if_neg (by omega)]) (by rw [rgH, if_neg (by omega)]) (by rw [rgE, if_neg (by omega)]), (Below.refl _ _).alloc (Nat.le_refl _) _⟩
  · go_enter Try.func34, Try.ntmps34
    go_wp2
    go_ret3
    exact ⟨ret3 (by rw [rgL, if_neg (by omega)]) (by rw [rgH, if_neg (by omega)]) (by rw [rgE, if_neg (by omega)]), (Below.refl _ _).alloc (Nat.le_refl _) _⟩
/-- The floor is the ceiling, or one less; it is one less just if it begins too early. -/
theorem floor_step (p n : Int) (h1 : 1 ≤ n) :
    (p * 4294967296 / n * n / 4294967296 < p → bgV p n = p * 4294967296 / n + 1) ∧ (¬ p * 4294967296 / n * n / 4294967296 < p → bgV p n = p * 4294967296 / n) := by
  have e1 : p * 4294967296 / n * n ≤ p * 4294967296 := Int.ediv_mul_le _ (by omega)
  have e2 : p * 4294967296 < (p * 4294967296 / n + 1) * n := Int.lt_ediv_add_one_mul_self _ (by omega)
  generalize p * 4294967296 / n = q at *
  have e3 : (q + 1) * n = q * n + n := by rw [Int.add_mul]; omega
  rw [e3] at e2
  refine ⟨fun h => ?_, fun h => ?_⟩
  · have h' : q * n < p * 4294967296 := by omega
    unfold bgV
    have : p * 4294967296 + n - 1 = (p * 4294967296 - 1 - q * n) + n * (q + 1) := by rw [Int.mul_comm n, e3]; omega
    rw [this, Int.add_mul_ediv_left _ _ (by omega), Int.ediv_eq_zero_of_lt (by omega) (by omega)]; omega
  · have h' : q * n = p * 4294967296 := by omega
    unfold bgV
    have : p * 4294967296 + n - 1 = (n - 1) + n * q := by rw [Int.mul_comm n]; omega
    rw [this, Int.add_mul_ediv_left _ _ (by omega), Int.ediv_eq_zero_of_lt (by omega) (by omega)]; omega
theorem bg_stop (p n : Int) (h1 : 1 ≤ n) : ¬ bgV p n * n / 4294967296 < p := by
  have e2 : p * 4294967296 + n - 1 < (bgV p n + 1) * n := Int.lt_ediv_add_one_mul_self _ (by omega)
  have e3 : (bgV p n + 1) * n = bgV p n * n + n := by rw [Int.add_mul]; omega
  omega
set_option maxHeartbeats 400000 in
theorem rfirst_any (p n : Int) (w : World) (h1 : 1 ≤ n) (h2 : n ≤ 64) (h3 : 0 ≤ p) (h4 : p ≤ n) :
    Calls Try.prog 51 #[.int .i64 p, .int .i64 n] w fun e w' => e = .returned (.int .i64 (bgV p n)) ∧ w = w' := by
  have hf := floor_step p n h1
  have hq0 : 0 ≤ p * 4294967296 / n := Int.ediv_nonneg (by omega) (by omega)
  have hq1 : p * 4294967296 / n < 4294967297 := (Int.ediv_lt_iff_lt_mul (by omega)).2 (by omega)
  have hs := bg_stop p n h1
  have hb := bg_bd p n h1 h3 h4
  obtain ⟨hb1, hb2⟩ := hb
  have HF := Lib.hid hf
  clear hf
  go_enter Try.func51, Try.ntmps51
  go_wp2
  generalize p * 4294967296 / n = q at *
  go_loop [5] (fun k => k = .int .i64 q ∨ (q * n / 4294967296 < p ∧ k = .int .i64 (bgV p n))) (fun k => (4294967297 - intOf k).toNat)
  case atStart => exact .inl rfl
  case round =>
    rcases hrel with rfl | ⟨hlt, rfl⟩
    · have m0 : 0 ≤ q * n := Int.mul_nonneg hq0 (by omega)
      have m1 : q * n ≤ 4294967297 * 64 := Int.mul_le_mul (by omega) h2 (by omega) (by omega)
      by_cases hlt : q * n / 4294967296 < p
      · go_wp2
        go_round
        case rel => exact .inr ⟨hlt, by rw [HF.out.1 hlt]⟩
        case measure => simp [intOf]; omega
      · go_wp2
        go_ret
        exact ⟨ret1 (HF.out.2 hlt).symm, rfl⟩
    · have m0 : 0 ≤ bgV p n * n := Int.mul_nonneg hb1 (by omega)
      have m1 : bgV p n * n ≤ 4294967296 * 64 := Int.mul_le_mul hb2 h2 (by omega) (by omega)
      go_wp2
      go_ret
      exact ⟨rfl, rfl⟩
set_option maxHeartbeats 400000 in
theorem rrange_any (p n : Int) (w : World) :
    Calls Try.prog 35 #[.int .i64 p, .int .i64 n] w fun e w' => e = .returned (.tuple #[.int .i64 (rgL p n), .int .i64 (rgH p n), .int .i64 (rgE p n)]) ∧ w = w' := by
  by_cases h1 : 1 ≤ n
  · by_cases h2 : n ≤ 64
    · by_cases h3 : 0 ≤ p
      · by_cases h4 : p < n
        · have hb1 := bg_bd p n h1 h3 (by omega)
          have hb2 := bg_bd (p + 1) n h1 (by omega) (by omega)
          obtain ⟨b1, b2⟩ := hb1
          obtain ⟨b3, b4⟩ := hb2
          go_enter Try.func35, Try.ntmps35
          go_wp2_with (first | (go_at_call 51; refine (rfirst_any _ _ _ (by omega) (by omega) (by omega) (by omega)).mono ?_; rintro e w' ⟨rfl, rfl⟩) | go_in)
          go_ret3
          exact ⟨ret3 (by rw [rgL, if_pos ⟨h1, h2, h3, h4⟩]) (by rw [rgH, if_pos ⟨h1, h2, h3, h4⟩]) (by rw [rgE, if_pos ⟨h1, h2, h3, h4⟩]), rfl⟩
        · go_enter Try.func35, Try.ntmps35
          go_wp2
          go_ret3
          exact ⟨ret3 (by rw [rgL, if_neg (by omega)]) (by rw [rgH, if_neg (by omega)]) (by rw [rgE, if_neg (by omega)]), rfl⟩
      · go_enter Try.func35, Try.ntmps35
        go_wp2
        go_ret3
        exact ⟨ret3 (by rw [rgL, if_neg (by omega)]) (by rw [rgH, if_neg (by omega)]) (by rw [rgE, if_neg (by omega)]), rfl⟩
    · go_enter Try.func35, Try.ntmps35
      go_wp2
      go_ret3
      exact ⟨ret3 (by rw [rgL, if_neg (by omega)]) (by rw [rgH, if_neg (by omega)]) (by rw [rgE, if_neg (by omega)]), rfl⟩
  · go_enter Try.func35, Try.ntmps35
    go_wp2
    go_ret3
    exact ⟨ret3 (by rw [rgL, if_neg (by omega)]) (by rw [rgH, if_neg (by omega)]) (by rw [rgE, if_neg (by omega)]), rfl⟩
end Go.Proofs.Ytkeipanehjjmdaa
