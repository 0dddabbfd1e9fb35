/-
  The contracts of the reference's Pack, Index, Tag, Next, and of Part, Range (the program's and the reference's).
-/
import Derived.Test.YtkeipanehjjmdaaWord1
import Derived.LoopTactic
namespace Go.Proofs.Ytkeipanehjjmdaa
open Go.RowKit WM

set_option maxHeartbeats 400000 in
theorem rpack_any (i : Int) (t : Int) (w : World) :
    Calls Try.prog 24 #[.int .i64 i, .int .i64 t] w fun e w' => e = .returned (.tuple #[.int .i64 (pkV i t), .int .i64 (pkE i t)]) ∧ w = w' := by
  by_cases h1 : 0 ≤ i
  · by_cases h2 : i ≤ 1048575
    · by_cases h3 : 0 ≤ t
      · by_cases h4 : t ≤ 1099511627775
        · go_enter Try.func24, Try.ntmps24
          go_wp2
          go_ret2
          exact ⟨ret2 (by rw [pkV, if_pos ⟨h1, h2, h3, h4⟩]) (by rw [pkE, if_pos ⟨h1, h2⟩, if_pos ⟨h3, h4⟩]), rfl⟩
        · go_enter Try.func24, Try.ntmps24
          go_wp2
          go_ret2
          exact ⟨ret2 (by rw [pkV, if_neg (by omega)]) (by rw [pkE, if_pos ⟨h1, h2⟩, if_neg (by omega)]), rfl⟩
      · go_enter Try.func24, Try.ntmps24
        go_wp2
        go_ret2
        exact ⟨ret2 (by rw [pkV, if_neg (by omega)]) (by rw [pkE, if_pos ⟨h1, h2⟩, if_neg (by omega)]), rfl⟩
    · go_enter Try.func24, Try.ntmps24
      go_wp2
      go_ret2
      exact ⟨ret2 (by rw [pkV, if_neg (by omega)]) (by rw [pkE, if_neg (by omega)]), rfl⟩
  · go_enter Try.func24, Try.ntmps24
    go_wp2
    go_ret2
    exact ⟨ret2 (by rw [pkV, if_neg (by omega)]) (by rw [pkE, if_neg (by omega)]), rfl⟩
set_option maxHeartbeats 400000 in
theorem rindex_any (x : Int) (w : World) :
    Calls Try.prog 27 #[.int .i64 x] w fun e w' => e = .returned (.int .i64 (ixV x)) ∧ w = w' := by
  by_cases h1 : 0 ≤ x
  · by_cases h2 : x < 1152921504606846976
    · go_enter Try.func27, Try.ntmps27
      go_wp2
      go_ret
      exact ⟨ret1 (by rw [ixV, if_pos (by omega)]), rfl⟩
    · go_enter Try.func27, Try.ntmps27
      go_wp2
      go_ret
      exact ⟨ret1 (by rw [ixV, if_neg (by omega)]), rfl⟩
  · go_enter Try.func27, Try.ntmps27
    go_wp2
    go_ret
    exact ⟨ret1 (by rw [ixV, if_neg (by omega)]), rfl⟩
set_option maxHeartbeats 400000 in
theorem rtag_any (x : Int) (w : World) :
    Calls Try.prog 29 #[.int .i64 x] w fun e w' => e = .returned (.int .i64 (tgV x)) ∧ w = w' := by
  by_cases h1 : 0 ≤ x
  · by_cases h2 : x < 1152921504606846976
    · go_enter Try.func29, Try.ntmps29
      go_wp2
      go_ret
      exact ⟨ret1 (by rw [tgV, if_pos (by omega)]), rfl⟩
    · go_enter Try.func29, Try.ntmps29
      go_wp2
      go_ret
      exact ⟨ret1 (by rw [tgV, if_neg (by omega)]), rfl⟩
  · go_enter Try.func29, Try.ntmps29
    go_wp2
    go_ret
    exact ⟨ret1 (by rw [tgV, if_neg (by omega)]), rfl⟩
set_option maxHeartbeats 400000 in
theorem rnext_any (x : Int) (i : Int) (w : World) :
    Calls Try.prog 31 #[.int .i64 x, .int .i64 i] w fun e w' => e = .returned (.tuple #[.int .i64 (nxV x i), .int .i64 (nxE x i)]) ∧ w = w' := by
  have hb := tg_bd x
  obtain ⟨hb1, hb2⟩ := hb
  by_cases h1 : 0 ≤ i
  · by_cases h2 : i ≤ 1048575
    · by_cases h3 : 0 ≤ x
      · by_cases h4 : x < 1152921504606846976
        · go_enter Try.func31, Try.ntmps31
          go_wp2_with (first | (go_at_call 29; refine (rtag_any _ _).mono ?_; rintro e w' ⟨rfl, rfl⟩) | (go_at_call 24; refine (rpack_any _ _ _).mono ?_; rintro e w' ⟨rfl, rfl⟩) | go_in)
          go_ret2
          exact ⟨ret2 (by rw [pkV, if_pos (by omega), nxV, if_pos (by omega), tgV, if_pos (by omega)]) (by rw [pkE, if_pos (by omega), if_pos (by omega), nxE, if_pos (by omega), if_pos (by omega)]), rfl⟩
        · go_enter Try.func31, Try.ntmps31
          go_wp2
          go_ret2
          exact ⟨ret2 (by rw [nxV, if_neg (by omega)]) (by rw [nxE, if_pos ⟨h1, h2⟩, if_neg (by omega)]), rfl⟩
      · go_enter Try.func31, Try.ntmps31
        go_wp2
        go_ret2
        exact ⟨ret2 (by rw [nxV, if_neg (by omega)]) (by rw [nxE, if_pos ⟨h1, h2⟩, if_neg (by omega)]), rfl⟩
    · go_enter Try.func31, Try.ntmps31
      go_wp2
      go_ret2
      exact ⟨ret2 (by rw [nxV, if_neg (by omega)]) (by rw [nxE, if_neg (by omega)]), rfl⟩
  · go_enter Try.func31, Try.ntmps31
    go_wp2
    go_ret2
    exact ⟨ret2 (by rw [nxV, if_neg (by omega)]) (by rw [nxE, if_neg (by omega)]), rfl⟩
set_option maxHeartbeats 400000 in
theorem part_any (k : Int) (n : Int) (w : World) :
    Calls Try.prog 32 #[.int .i64 k, .int .i64 n] w fun e w' => e = .returned (.tuple #[.int .i64 (ptV k n), .int .i64 (ptE k n)]) ∧ w = w' := by
  by_cases h1 : 0 ≤ k
  · by_cases h2 : k ≤ 4294967295
    · by_cases h3 : 1 ≤ n
      · by_cases h4 : n ≤ 64
        · have hm1 : 0 ≤ k * n := Int.mul_nonneg h1 (by omega)
          have hm2 : k * n ≤ 4294967295 * 64 := Int.mul_le_mul h2 h4 (by omega) (by omega)
          go_enter Try.func32, Try.ntmps32
          go_wp2
          go_ret2
          exact ⟨ret2 (by rw [ptV, if_pos ⟨h1, h2, h3, h4⟩]) (by rw [ptE, if_pos ⟨h1, h2⟩, if_pos ⟨h3, h4⟩]), rfl⟩
        · go_enter Try.func32, Try.ntmps32
          go_wp2
          go_ret2
          exact ⟨ret2 (by rw [ptV, if_neg (by omega)]) (by rw [ptE, if_pos ⟨h1, h2⟩, if_neg (by omega)]), rfl⟩
      · go_enter Try.func32, Try.ntmps32
        go_wp2
        go_ret2
        exact ⟨ret2 (by rw [ptV, if_neg (by omega)]) (by rw [ptE, if_pos ⟨h1, h2⟩, if_neg (by omega)]), rfl⟩
    · go_enter Try.func32, Try.ntmps32
      go_wp2
      go_ret2
      exact ⟨ret2 (by rw [ptV, if_neg (by omega)]) (by rw [ptE, if_neg (by omega)]), rfl⟩
  · go_enter Try.func32, Try.ntmps32
    go_wp2
    go_ret2
    exact ⟨ret2 (by rw [ptV, if_neg (by omega)]) (by rw [ptE, if_neg (by omega)]), rfl⟩
set_option maxHeartbeats 400000 in
theorem rpart_any (k : Int) (n : Int) (w : World) :
    Calls Try.prog 33 #[.int .i64 k, .int .i64 n] w fun e w' => e = .returned (.tuple #[.int .i64 (ptV k n), .int .i64 (ptE k n)]) ∧ w = w' := by
  by_cases h1 : 0 ≤ k
  · by_cases h2 : k ≤ 4294967295
    · by_cases h3 : 1 ≤ n
      · by_cases h4 : n ≤ 64
        · have hm1 : 0 ≤ k * n := Int.mul_nonneg h1 (by omega)
          have hm2 : k * n ≤ 4294967295 * 64 := Int.mul_le_mul h2 h4 (by omega) (by omega)
          go_enter Try.func33, Try.ntmps33
          go_wp2
          go_ret2
          exact ⟨ret2 (by rw [ptV, if_pos ⟨h1, h2, h3, h4⟩]) (by rw [ptE, if_pos ⟨h1, h2⟩, if_pos ⟨h3, h4⟩]), rfl⟩
        · go_enter Try.func33, Try.ntmps33
          go_wp2
          go_ret2
          exact ⟨ret2 (by rw [ptV, if_neg (by omega)]) (by rw [ptE, if_pos ⟨h1, h2⟩, if_neg (by omega)]), rfl⟩
      · go_enter Try.func33, Try.ntmps33
        go_wp2
        go_ret2
        exact ⟨ret2 (by rw [ptV, if_neg (by omega)]) (by rw [ptE, if_pos ⟨h1, h2⟩, if_neg (by omega)]), rfl⟩
    · go_enter Try.func33, Try.ntmps33
      go_wp2
      go_ret2
      exact ⟨ret2 (by rw [ptV, if_neg (by omega)]) (by rw [ptE, if_neg (by omega)]), rfl⟩
  · go_enter Try.func33, Try.ntmps33
    go_wp2
    go_ret2
    exact ⟨ret2 (by rw [ptV, if_neg (by omega)]) (by rw [ptE, if_neg (by omega)]), rfl⟩
end Go.Proofs.Ytkeipanehjjmdaa
