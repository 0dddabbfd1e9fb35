/-
  The contracts of Bit and Place (the program's and the reference's).
-/
import Derived.Test.YtkeipanehjjmdaaWord3
import Derived.Test.YtkeipanehjjmdaaWBits
namespace Go.Proofs.Ytkeipanehjjmdaa
open Go.RowKit WM
set_option maxHeartbeats 400000 in
theorem bit_yes (k p : Nat) (w : World) (h2 : k ≤ 4294967295) (h4 : p ≤ 31) :
    Calls Try.prog 36 #[.int .i64 k, .int .i64 p] w fun e w' => e = .returned (.tuple #[.int .i64 (btV k p), .int .i64 (btE k p)]) ∧ w = w' := by
  have hs := sh_le k p
  go_enter Try.func36, Try.ntmps36
  go_wp2
  go_ret2
  exact ⟨ret2 (by rw [shI, and1 _ (by omega) (by omega), btV, if_pos (by omega), Int.toNat_natCast, shI]) (by rw [btE, if_pos (by omega)]), rfl⟩
set_option maxHeartbeats 400000 in
theorem rbit_yes (k p : Nat) (w : World) (h2 : k ≤ 4294967295) (h4 : p ≤ 31) :
    Calls Try.prog 37 #[.int .i64 k, .int .i64 p] w fun e w' => e = .returned (.tuple #[.int .i64 (btV k p), .int .i64 (btE k p)]) ∧ w = w' := by
  go_enter Try.func37, Try.ntmps37
  go_wp2
  go_loop [0, 6] (fun x i => ∃ m : Nat, m ≤ p ∧ i = .int .i64 m ∧ x = .int .i64 (sh k m : Nat)) (fun _ i => p - (intOf i).toNat)
  case atStart => exact ⟨0, by omega, rfl, by rw [sh_zero]⟩
  case round =>
    obtain ⟨m, hm, rfl, rfl⟩ := hrel
    have hs := sh_le k m
    by_cases hlt : m < p
    · go_wp2
      go_round
      case rel => exact ⟨m + 1, by omega, by go_num, by rw [sh_succ]⟩
      case measure => simp [intOf]; omega
    · obtain rfl : m = p := by omega
      go_wp2
      go_ret2
      exact ⟨ret2 (by rw [btV, if_pos (by omega), Int.toNat_natCast, shI]) (by rw [btE, if_pos (by omega)]), rfl⟩
set_option maxHeartbeats 400000 in
theorem bit_any (k p : Int) (w : World) :
    Calls Try.prog 36 #[.int .i64 k, .int .i64 p] w fun e w' => e = .returned (.tuple #[.int .i64 (btV k p), .int .i64 (btE k p)]) ∧ w = w' := by
  by_cases h0 : 0 ≤ k
  · by_cases h1 : k ≤ 4294967295
    · by_cases h2 : 0 ≤ p
      · by_cases h3 : p ≤ 31
        · obtain ⟨k, rfl⟩ := Int.eq_ofNat_of_zero_le h0
          obtain ⟨p, rfl⟩ := Int.eq_ofNat_of_zero_le h2
          exact bit_yes k p w (by omega) (by omega)
        · go_enter Try.func36, Try.ntmps36
          go_wp2
          go_ret2
          exact ⟨ret2 (by rw [btV, if_neg (by omega)]) (by rw [btE, if_neg (by omega)]), rfl⟩
      · go_enter Try.func36, Try.ntmps36
        go_wp2
        go_ret2
        exact ⟨ret2 (by rw [btV, if_neg (by omega)]) (by rw [btE, if_neg (by omega)]), rfl⟩
    · go_enter Try.func36, Try.ntmps36
      go_wp2
      go_ret2
      exact ⟨ret2 (by rw [btV, if_neg (by omega)]) (by rw [btE, if_neg (by omega)]), rfl⟩
  · go_enter Try.func36, Try.ntmps36
    go_wp2
    go_ret2
    exact ⟨ret2 (by rw [btV, if_neg (by omega)]) (by rw [btE, if_neg (by omega)]), rfl⟩
set_option maxHeartbeats 400000 in
theorem rbit_any (k p : Int) (w : World) :
    Calls Try.prog 37 #[.int .i64 k, .int .i64 p] w fun e w' => e = .returned (.tuple #[.int .i64 (btV k p), .int .i64 (btE k p)]) ∧ w = w' := by
  by_cases h0 : 0 ≤ k
  · by_cases h1 : k ≤ 4294967295
    · by_cases h2 : 0 ≤ p
      · by_cases h3 : p ≤ 31
        · obtain ⟨k, rfl⟩ := Int.eq_ofNat_of_zero_le h0
          obtain ⟨p, rfl⟩ := Int.eq_ofNat_of_zero_le h2
          exact rbit_yes k p w (by omega) (by omega)
        · go_enter Try.func37, Try.ntmps37
          go_wp2
          go_ret2
          exact ⟨ret2 (by rw [btV, if_neg (by omega)]) (by rw [btE, if_neg (by omega)]), rfl⟩
      · go_enter Try.func37, Try.ntmps37
        go_wp2
        go_ret2
        exact ⟨ret2 (by rw [btV, if_neg (by omega)]) (by rw [btE, if_neg (by omega)]), rfl⟩
    · go_enter Try.func37, Try.ntmps37
      go_wp2
      go_ret2
      exact ⟨ret2 (by rw [btV, if_neg (by omega)]) (by rw [btE, if_neg (by omega)]), rfl⟩
  · go_enter Try.func37, Try.ntmps37
    go_wp2
    go_ret2
    exact ⟨ret2 (by rw [btV, if_neg (by omega)]) (by rw [btE, if_neg (by omega)]), rfl⟩
set_option maxRecDepth 20000 in
set_option maxHeartbeats 400000 in
theorem place_yes (k p : Nat) (w : World) (h2 : k ≤ 4294967295) (h4 : p ≤ 4294967295) :
    Calls Try.prog 38 #[.int .i64 k, .int .i64 p] w fun e w' => e = .returned (.tuple #[.int .i64 (plV k p), .int .i64 (plE k p)]) ∧ w = w' := by
  have hx : bits .xor .i64 (k : Int) (p : Int) = ((k ^^^ p : Nat) : Int) := xor64 _ _ (by omega) (by omega)
  have hk' : (k : Int) ≤ 4294967295 := by omega
  have hp' : (p : Int) ≤ 4294967295 := by omega
  have hlt : k ^^^ p < 2 ^ 32 := Nat.xor_lt_two_pow (by omega) (by omega)
  have hfin : plV k p = (blen (k ^^^ p) : Int) - 1 := by rw [plV, if_pos (by omega), Int.toNat_natCast, Int.toNat_natCast]
  have hl := (blen_le (k ^^^ p) 32).2 hlt
  have HF := Lib.hid hfin
  have HE := Lib.hid (show plE k p = 0 by rw [plE, if_pos (by omega)])
  clear hfin hlt
  generalize k ^^^ p = X at *
  go_enter Try.func38, Try.ntmps38
  go_wp2
  clear hx h2 h4 hk' hp'
  go_loop [6, 7] (fun a x => ∃ (y : Nat) (n : Int), y ≤ X ∧ -1 ≤ n ∧ n + (blen y : Int) = (blen X : Int) - 1 ∧ a = .int .i64 n ∧ x = .int .i64 y) (fun _ x => (intOf x).toNat)
  case atStart => exact ⟨X, -1, by omega, by omega, by omega, rfl, rfl⟩
  case round =>
    obtain ⟨y, n, hy, hn, hsum, rfl, rfl⟩ := hrel
    have HS := Lib.hid hsum
    clear hsum
    have hn2 : n ≤ 32 := by have := HS.out; omega
    by_cases hc : 256 ≤ y
    · have hb := Lib.hid (blen_byte y hc)
      go_wp2
      go_round
      case rel => exact ⟨y / 256, n + 8, by omega, by omega, by have := HS.out; have := hb.out; omega, rfl, by go_num⟩
      case measure => simp [intOf]; omega
    · go_wp2
      go_loop [6, 7] (fun a x => ∃ (y : Nat) (n : Int), y ≤ 256 ∧ -1 ≤ n ∧ n + (blen y : Int) = (blen X : Int) - 1 ∧ a = .int .i64 n ∧ x = .int .i64 y) (fun _ x => (intOf x).toNat)
      case atStart => exact ⟨y, n, by omega, by omega, HS.out, rfl, rfl⟩
      case round =>
        clear hn HS hn2 hy hc
        obtain ⟨z, m, hz, hm, hsum, rfl, rfl⟩ := hrel
        have HS := Lib.hid hsum
        clear hsum
        have hm2 : m ≤ 32 := by have := HS.out; omega
        by_cases hc : 0 < z
        · have hb := Lib.hid (blen_half z hc)
          go_wp2
          go_round
          case rel => exact ⟨z / 2, m + 1, by omega, by omega, by have := HS.out; have := hb.out; omega, rfl, by go_num⟩
          case measure => simp [intOf]; omega
        · obtain rfl : z = 0 := by omega
          go_wp2
          go_ret2
          exact ⟨ret2 (by have := HS.out; rw [blen_zero] at this; rw [HF.out]; omega) HE.out.symm, rfl⟩
set_option maxHeartbeats 400000 in
theorem rplace_yes (k p : Nat) (w : World) (h2 : k ≤ 4294967295) (h4 : p ≤ 4294967295) :
    Calls Try.prog 39 #[.int .i64 k, .int .i64 p] w fun e w' => e = .returned (.tuple #[.int .i64 (plV k p), .int .i64 (plE k p)]) ∧ w = w' := by
  have hk' : (k : Int) ≤ 4294967295 := by omega
  have hp' : (p : Int) ≤ 4294967295 := by omega
  have hlt : k ^^^ p < 2 ^ 32 := Nat.xor_lt_two_pow (by omega) (by omega)
  have hfin : plV k p = (blen (k ^^^ p) : Int) - 1 := by rw [plV, if_pos (by omega), Int.toNat_natCast, Int.toNat_natCast]
  have hl := (blen_le (k ^^^ p) 32).2 hlt
  have HF := Lib.hid hfin
  clear hfin hlt
  go_enter Try.func39, Try.ntmps39
  go_wp2
  go_loop [0, 1, 6] (fun a b n => ∃ m : Nat, m ≤ blen (k ^^^ p) ∧ a = .int .i64 (sh k m : Nat) ∧ b = .int .i64 (sh p m : Nat) ∧ n = .int .i64 ((m : Int) - 1)) (fun _ _ n => 32 - (intOf n + 1).toNat)
  case atStart => exact ⟨0, by omega, by rw [sh_zero], by rw [sh_zero], rfl⟩
  case round =>
    obtain ⟨m, hm, rfl, rfl, rfl⟩ := hrel
    have hs1 := sh_le k m
    have hs2 := sh_le p m
    have hne := sh_ne k p m
    by_cases hc : m < blen (k ^^^ p)
    · have hd : (((sh k m : Nat) : Int) == ((sh p m : Nat) : Int)) = false := by
        rw [beq_eq_false_iff_ne]; intro h; have := hne.1 (by omega); omega
      have hd2 : (((sh k m : Nat) : Int) != ((sh p m : Nat) : Int)) = true := by
        rw [bne_iff_ne]; intro h; have := hne.1 (by omega); omega
      clear hne
      go_wp2
      go_round
      case rel => exact ⟨m + 1, by omega, by rw [sh_succ], by rw [sh_succ], by go_num⟩
      case measure => simp [intOf]; omega
    · obtain rfl : m = blen (k ^^^ p) := by omega
      have heq := hne.2 (by omega)
      have hd2 : (((sh k (blen (k ^^^ p)) : Nat) : Int) != ((sh p (blen (k ^^^ p)) : Nat) : Int)) = false := by
        rw [heq]; simp
      clear hne heq
      go_wp2
      go_ret2
      exact ⟨ret2 (by rw [HF.out]) (by rw [plE, if_pos (by omega)]), rfl⟩
set_option maxHeartbeats 400000 in
theorem place_any (k p : Int) (w : World) :
    Calls Try.prog 38 #[.int .i64 k, .int .i64 p] w fun e w' => e = .returned (.tuple #[.int .i64 (plV k p), .int .i64 (plE k p)]) ∧ w = w' := by
  by_cases h0 : 0 ≤ k
  · by_cases h1 : k ≤ 4294967295
    · by_cases h2 : 0 ≤ p
      · by_cases h3 : p ≤ 4294967295
        · obtain ⟨k, rfl⟩ := Int.eq_ofNat_of_zero_le h0
          obtain ⟨p, rfl⟩ := Int.eq_ofNat_of_zero_le h2
          exact place_yes k p w (by omega) (by omega)
        · go_enter Try.func38, Try.ntmps38
          go_wp2
          go_ret2
          exact ⟨ret2 (by rw [plV, if_neg (by omega)]) (by rw [plE, if_neg (by omega)]), rfl⟩
      · go_enter Try.func38, Try.ntmps38
        go_wp2
        go_ret2
        exact ⟨ret2 (by rw [plV, if_neg (by omega)]) (by rw [plE, if_neg (by omega)]), rfl⟩
    · go_enter Try.func38, Try.ntmps38
      go_wp2
      go_ret2
      exact ⟨ret2 (by rw [plV, if_neg (by omega)]) (by rw [plE, if_neg (by omega)]), rfl⟩
  · go_enter Try.func38, Try.ntmps38
    go_wp2
    go_ret2
    exact ⟨ret2 (by rw [plV, if_neg (by omega)]) (by rw [plE, if_neg (by omega)]), rfl⟩
set_option maxHeartbeats 400000 in
theorem rplace_any (k p : Int) (w : World) :
    Calls Try.prog 39 #[.int .i64 k, .int .i64 p] w fun e w' => e = .returned (.tuple #[.int .i64 (plV k p), .int .i64 (plE k p)]) ∧ w = w' := by
  by_cases h0 : 0 ≤ k
  · by_cases h1 : k ≤ 4294967295
    · by_cases h2 : 0 ≤ p
      · by_cases h3 : p ≤ 4294967295
        · obtain ⟨k, rfl⟩ := Int.eq_ofNat_of_zero_le h0
          obtain ⟨p, rfl⟩ := Int.eq_ofNat_of_zero_le h2
          exact rplace_yes k p w (by omega) (by omega)
        · go_enter Try.func39, Try.ntmps39
          go_wp2
          go_ret2
          exact ⟨ret2 (by rw [plV, if_neg (by omega)]) (by rw [plE, if_neg (by omega)]), rfl⟩
      · go_enter Try.func39, Try.ntmps39
        go_wp2
        go_ret2
        exact ⟨ret2 (by rw [plV, if_neg (by omega)]) (by rw [plE, if_neg (by omega)]), rfl⟩
    · go_enter Try.func39, Try.ntmps39
      go_wp2
      go_ret2
      exact ⟨ret2 (by rw [plV, if_neg (by omega)]) (by rw [plE, if_neg (by omega)]), rfl⟩
  · go_enter Try.func39, Try.ntmps39
    go_wp2
    go_ret2
    exact ⟨ret2 (by rw [plV, if_neg (by omega)]) (by rw [plE, if_neg (by omega)]), rfl⟩
end Go.Proofs.Ytkeipanehjjmdaa
