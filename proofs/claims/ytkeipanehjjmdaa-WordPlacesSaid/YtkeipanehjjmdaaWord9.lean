/-
  The walk of WordPlaces: it returns true and changes nothing that was there.
-/
import Derived.Test.YtkeipanehjjmdaaWord6
import Derived.Test.YtkeipanehjjmdaaWPlace
namespace Go.Proofs.Ytkeipanehjjmdaa
open Go.RowKit WM
set_option maxRecDepth 100000 in
set_option maxHeartbeats 2000000 in
theorem wordPlaces_in (a b c : Nat) (w : World) (ha : a ≤ 4294967295) (hb : b ≤ 4294967295) (hc : c ≤ 4294967295) : Calls Try.prog 11 #[.int .i64 a, .int .i64 b, .int .i64 c] w fun e w' => e = .returned (.bool true) ∧ Below w.heap.size w w' := by
  have ha' : (a : Int) ≤ 4294967295 := by omega
  have hb' : (b : Int) ≤ 4294967295 := by omega
  have hc' : (c : Int) ≤ 4294967295 := by omega
  have hsym := pl_sym a b ha hb
  have hnone := Lib.hid (pl_none a b ha hb)
  have hbd := pl_bd a b ha hb
  obtain ⟨hP1, hP2⟩ := hbd
  obtain ⟨P, hP⟩ : ∃ P, plV a b = P := ⟨_, rfl⟩
  have HP := Lib.hid hP
  obtain ⟨Q, hQ⟩ : ∃ Q, plV b c = Q := ⟨_, rfl⟩
  obtain ⟨R, hR⟩ : ∃ R, plV a c = R := ⟨_, rfl⟩
  have htri := pl_tri a b c ha hb hc
  rw [hP] at hsym hP1 hP2 htri
  rw [hQ, hR] at htri
  by_cases hab : a = b
  · have q1 : plV a b = -1 := hnone.out.2 hab
    have q3 : plV a a = -1 := by rw [← hab] at q1; exact q1
    have q0 : P = -1 := by rw [← hP]; exact q1
    subst hab
    have hqr : Q = R := by rw [← hQ, ← hR]
    subst hqr
    have q4 : -1 ≤ Q := by omega
    clear hnone HP hP hR hsym q1 htri hP1 hP2 q0
    go_enter Try.func11, Try.ntmps11
    go_wp2_with (first | (go_at_call 22; refine (wknown _).mono ?_; rintro e w1 ⟨rfl, hb1⟩) | (go_at_call 38; refine (place_any _ _ _).mono ?_; rintro e w' ⟨rfl, rfl⟩))
    all_goals
      go_loop [15] (fun i => ∃ m : Int, m < 0 ∧ i = .int .i64 m) (fun i => (32 - intOf i).toNat)
      case atStart => exact ⟨_, by omega, rfl⟩
      case round =>
        obtain ⟨m, hm, rfl⟩ := hrel
        go_wp2
        go_ret
        exact ⟨rfl, hb1⟩
  · have q1 : (P == -1) = false := by
      rw [beq_eq_false_iff_ne, ← hP]; exact fun h => hab (hnone.out.1 h)
    have q2 : ((a : Int) == (b : Int)) = false := by rw [beq_eq_false_iff_ne]; omega
    have m1 : R ≤ max P Q := by omega
    have m2 : P ≤ max Q R := by omega
    have m3 : Q ≤ max P R := by omega
    have hways : (P = Q ∧ R ≤ P) ∨ (Q = R ∧ P < Q) ∨ (P = R ∧ Q < P) := by omega
    clear htri
    rcases hways with ⟨rfl, ht⟩ | ⟨rfl, ht⟩ | ⟨rfl, ht⟩
    all_goals
      clear hnone
      go_enter Try.func11, Try.ntmps11
      go_wp2_with (first | (go_at_call 22; refine (wknown _).mono ?_; rintro e w1 ⟨rfl, hb1⟩) | (go_at_call 38; refine (place_any _ _ _).mono ?_; rintro e w' ⟨rfl, rfl⟩))
    all_goals
      clear hP hQ hR hsym m1 m2 m3 q1 q2 hab
      go_loop [15] (fun i => ∃ m : Int, P ≤ m ∧ m ≤ 32 ∧ i = .int .i64 m) (fun i => (32 - intOf i).toNat)
      case atStart => exact ⟨P, by omega, by omega, rfl⟩
      case round =>
        obtain ⟨m, hm1, hm2, rfl⟩ := hrel
        by_cases h0 : 0 ≤ m
        · by_cases h1 : m < 32
          · by_cases hmp : m = P
            · have hat := place_at a b m.toNat ha hb (by omega) (by rw [HP.out]; omega)
              rw [Int.toNat_of_nonneg h0] at hat
              have b1 : (btV a m == btV b m) = false := by rw [beq_eq_false_iff_ne]; exact hat.1
              have b2 : (m == P) = true := by rw [beq_iff_eq]; exact hmp
              have HA := Lib.hid hat
              clear hat hmp
              by_cases hlt : a < b
              · have b3 : decide (btV a m < btV b m) = true := by rw [decide_eq_true_eq]; exact HA.out.2.2 hlt
                have b4 : decide (a < b) = true := by rw [decide_eq_true_eq]; exact hlt
                clear ha hb hc ha' hb' hc' hlt
                go_wp2_with (first | (go_at_call 36; refine (bit_any _ _ _).mono ?_; rintro e w' ⟨rfl, rfl⟩))
                go_round
                case rel => exact ⟨m + 1, by omega, by omega, by go_num⟩
                case measure => simp [intOf]; omega
              · have b3 : decide (btV a m < btV b m) = false := by rw [decide_eq_false_iff_not]; exact fun h => hlt (HA.out.2.1 h)
                have b4 : decide (a < b) = false := by rw [decide_eq_false_iff_not]; exact hlt
                clear ha hb hc ha' hb' hc' hlt
                go_wp2_with (first | (go_at_call 36; refine (bit_any _ _ _).mono ?_; rintro e w' ⟨rfl, rfl⟩))
                go_round
                case rel => exact ⟨m + 1, by omega, by omega, by go_num⟩
                case measure => simp [intOf]; omega
            · have hat := place_above a b m.toNat ha hb (by omega) (by rw [HP.out]; omega)
              rw [Int.toNat_of_nonneg h0] at hat
              have b1 : (btV a m == btV b m) = true := by rw [beq_iff_eq]; exact hat
              have b2 : (m == P) = false := by rw [beq_eq_false_iff_ne]; exact hmp
              clear hat hmp ha hb hc ha' hb' hc'
              go_wp2_with (first | (go_at_call 36; refine (bit_any _ _ _).mono ?_; rintro e w' ⟨rfl, rfl⟩))
              go_round
              case rel => exact ⟨m + 1, by omega, by omega, by go_num⟩
              case measure => simp [intOf]; omega
          · go_wp2
            go_ret
            exact ⟨rfl, hb1⟩
        · go_wp2
          go_ret
          exact ⟨rfl, hb1⟩

set_option maxRecDepth 100000 in
set_option maxHeartbeats 2000000 in
theorem wordPlaces_walk (a b c : Int) (w : World) (_ : (Lit.int .i64 a).wf = true) (_ : (Lit.int .i64 b).wf = true) (_ : (Lit.int .i64 c).wf = true) : Calls Try.prog 11 #[.int .i64 a, .int .i64 b, .int .i64 c] w fun e w' => e = .returned (.bool true) ∧ Below w.heap.size w w' := by
  by_cases h1 : a < 0
  · go_enter Try.func11, Try.ntmps11
    go_wp2_with (first | (go_at_call 22; refine (wknown _).mono ?_; rintro e w1 ⟨rfl, hb1⟩))
    go_ret
    exact ⟨rfl, hb1⟩
  by_cases h2 : b < 0
  · go_enter Try.func11, Try.ntmps11
    go_wp2_with (first | (go_at_call 22; refine (wknown _).mono ?_; rintro e w1 ⟨rfl, hb1⟩))
    go_ret
    exact ⟨rfl, hb1⟩
  by_cases h3 : c < 0
  · go_enter Try.func11, Try.ntmps11
    go_wp2_with (first | (go_at_call 22; refine (wknown _).mono ?_; rintro e w1 ⟨rfl, hb1⟩))
    go_ret
    exact ⟨rfl, hb1⟩
  by_cases h4 : 4294967295 < a
  · go_enter Try.func11, Try.ntmps11
    go_wp2_with (first | (go_at_call 22; refine (wknown _).mono ?_; rintro e w1 ⟨rfl, hb1⟩))
    go_ret
    exact ⟨rfl, hb1⟩
  by_cases h5 : 4294967295 < b
  · go_enter Try.func11, Try.ntmps11
    go_wp2_with (first | (go_at_call 22; refine (wknown _).mono ?_; rintro e w1 ⟨rfl, hb1⟩))
    go_ret
    exact ⟨rfl, hb1⟩
  by_cases h6 : 4294967295 < c
  · go_enter Try.func11, Try.ntmps11
    go_wp2_with (first | (go_at_call 22; refine (wknown _).mono ?_; rintro e w1 ⟨rfl, hb1⟩))
    go_ret
    exact ⟨rfl, hb1⟩
  obtain ⟨x, rfl⟩ := Int.eq_ofNat_of_zero_le (show 0 ≤ a by omega)
  obtain ⟨y, rfl⟩ := Int.eq_ofNat_of_zero_le (show 0 ≤ b by omega)
  obtain ⟨z, rfl⟩ := Int.eq_ofNat_of_zero_le (show 0 ≤ c by omega)
  exact wordPlaces_in x y z w (by omega) (by omega) (by omega)
end Go.Proofs.Ytkeipanehjjmdaa
