/-
  The contracts of package word and of its reference: Pack, Index, Tag, Next: each answers what the plain functions say, and leaves the world alone.
-/
import Derived.Test.YtkeipanehjjmdaaProg
import Derived.Test.YtkeipanehjjmdaaWSpec
import Derived.WalkSpells
import Derived.WalkLawsBesides
namespace Go.Proofs.Ytkeipanehjjmdaa
open Go.RowKit WM
set_option maxHeartbeats 400000 in
theorem pack_any (i t : Int) (w : World) :
    Calls Try.prog 23 #[.int .i64 i, .int .i64 t] w fun e w' => e = .returned (.tuple #[.int .i64 (pkV i t), .int .i64 (pkE i t)]) ∧ w = w' := by
  by_cases h1 : 0 ≤ i
  · by_cases h2 : i ≤ 1048575
    · by_cases h3 : 0 ≤ t
      · by_cases h4 : t ≤ 1099511627775
        · go_enter Try.func23, Try.ntmps23
          go_wp2
          go_ret2
          exact ⟨ret2 (by rw [orPack i t h1 h2 h3 h4, pkV, if_pos ⟨h1, h2, h3, h4⟩]) (by rw [pkE, if_pos ⟨h1, h2⟩, if_pos ⟨h3, h4⟩]), rfl⟩
        · go_enter Try.func23, Try.ntmps23
          go_wp2
          go_ret2
          exact ⟨ret2 (by rw [pkV, if_neg (by omega)]) (by rw [pkE, if_pos ⟨h1, h2⟩, if_neg (by omega)]), rfl⟩
      · go_enter Try.func23, Try.ntmps23
        go_wp2
        go_ret2
        exact ⟨ret2 (by rw [pkV, if_neg (by omega)]) (by rw [pkE, if_pos ⟨h1, h2⟩, if_neg (by omega)]), rfl⟩
    · go_enter Try.func23, Try.ntmps23
      go_wp2
      go_ret2
      exact ⟨ret2 (by rw [pkV, if_neg (by omega)]) (by rw [pkE, if_neg (by omega)]), rfl⟩
  · go_enter Try.func23, Try.ntmps23
    go_wp2
    go_ret2
    exact ⟨ret2 (by rw [pkV, if_neg (by omega)]) (by rw [pkE, if_neg (by omega)]), rfl⟩
set_option maxHeartbeats 400000 in
theorem index_any (x : Int) (w : World) :
    Calls Try.prog 26 #[.int .i64 x] w fun e w' => e = .returned (.int .i64 (ixV x)) ∧ w = w' := by
  by_cases h1 : 0 ≤ x
  · by_cases h2 : x ≤ 1152921504606846975
    · go_enter Try.func26, Try.ntmps26
      go_wp2
      go_ret
      exact ⟨ret1 (by rw [ixV, if_pos (by omega)]), rfl⟩
    · go_enter Try.func26, Try.ntmps26
      go_wp2
      go_ret
      exact ⟨ret1 (by rw [ixV, if_neg (by omega)]), rfl⟩
  · go_enter Try.func26, Try.ntmps26
    go_wp2
    go_ret
    exact ⟨ret1 (by rw [ixV, if_neg (by omega)]), rfl⟩
set_option maxHeartbeats 400000 in
theorem tag_any (x : Int) (w : World) :
    Calls Try.prog 28 #[.int .i64 x] w fun e w' => e = .returned (.int .i64 (tgV x)) ∧ w = w' := by
  by_cases h1 : 0 ≤ x
  · by_cases h2 : x ≤ 1152921504606846975
    · go_enter Try.func28, Try.ntmps28
      go_wp2
      go_ret
      exact ⟨ret1 (by rw [andTag x h1 (by omega), tgV, if_pos (by omega)]), rfl⟩
    · go_enter Try.func28, Try.ntmps28
      go_wp2
      go_ret
      exact ⟨ret1 (by rw [tgV, if_neg (by omega)]), rfl⟩
  · go_enter Try.func28, Try.ntmps28
    go_wp2
    go_ret
    exact ⟨ret1 (by rw [tgV, if_neg (by omega)]), rfl⟩
theorem tg_bd (x : Int) : 0 ≤ tgV x ∧ tgV x ≤ 1099511627775 := by unfold tgV; split <;> omega
set_option maxHeartbeats 400000 in
theorem next_any (x i : Int) (w : World) :
    Calls Try.prog 30 #[.int .i64 x, .int .i64 i] w fun e w' => e = .returned (.tuple #[.int .i64 (nxV x i), .int .i64 (nxE x i)]) ∧ w = w' := by
  have hb := tg_bd x
  obtain ⟨hb1, hb2⟩ := hb
  by_cases h1 : 0 ≤ i
  · by_cases h2 : i ≤ 1048575
    · by_cases h3 : 0 ≤ x
      · by_cases h4 : x ≤ 1152921504606846975
        · go_enter Try.func30, Try.ntmps30
          go_wp2_with (first | (go_at_call 28; refine (tag_any _ _).mono ?_; rintro e w' ⟨rfl, rfl⟩) | go_in)
          go_ret2
          refine ⟨ret2 ?_ ?_, rfl⟩
          · rw [andTag _ (by omega) (by omega), orPack i _ h1 h2 (by omega) (by omega), nxV, if_pos (by omega), tgV, if_pos (by omega)]
          · rw [nxE, if_pos ⟨h1, h2⟩, if_pos (by omega)]
        · go_enter Try.func30, Try.ntmps30
          go_wp2
          go_ret2
          exact ⟨ret2 (by rw [nxV, if_neg (by omega)]) (by rw [nxE, if_pos ⟨h1, h2⟩, if_neg (by omega)]), rfl⟩
      · go_enter Try.func30, Try.ntmps30
        go_wp2
        go_ret2
        exact ⟨ret2 (by rw [nxV, if_neg (by omega)]) (by rw [nxE, if_pos ⟨h1, h2⟩, if_neg (by omega)]), rfl⟩
    · go_enter Try.func30, Try.ntmps30
      go_wp2
      go_ret2
      exact ⟨ret2 (by rw [nxV, if_neg (by omega)]) (by rw [nxE, if_neg (by omega)]), rfl⟩
  · go_enter Try.func30, Try.ntmps30
    go_wp2
    go_ret2
    exact ⟨ret2 (by rw [nxV, if_neg (by omega)]) (by rw [nxE, if_neg (by omega)]), rfl⟩
end Go.Proofs.Ytkeipanehjjmdaa
