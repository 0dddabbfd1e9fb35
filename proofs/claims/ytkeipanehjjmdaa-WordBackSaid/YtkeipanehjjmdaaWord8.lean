/-
  The walks of WordBack and WordRanges: they return true and change nothing that was there.
-/
import Derived.Test.YtkeipanehjjmdaaWord6
import Derived.Test.YtkeipanehjjmdaaWLaw
namespace Go.Proofs.Ytkeipanehjjmdaa
open Go.RowKit WM
set_option maxRecDepth 100000 in
set_option maxHeartbeats 1000000 in
theorem wordBack_walk (x v : Int) (w : World) (_ : (Lit.int .i64 x).wf = true) (_ : (Lit.int .i64 v).wf = true) : Calls Try.prog 8 #[.int .i64 x, .int .i64 v] w fun e w' => e = .returned (.bool true) ∧ Below w.heap.size w w' := by
  by_cases h1 : x < 0
  · go_enter Try.func8, Try.ntmps8
    go_wp2_with (first | (go_at_call 22; refine (wknown _).mono ?_; rintro e w1 ⟨rfl, hb1⟩))
    go_ret
    exact ⟨rfl, hb1⟩
  by_cases h2 : 1152921504606846976 ≤ x
  · go_enter Try.func8, Try.ntmps8
    go_wp2_with (first | (go_at_call 22; refine (wknown _).mono ?_; rintro e w1 ⟨rfl, hb1⟩))
    go_ret
    exact ⟨rfl, hb1⟩
  by_cases h3 : v < 0
  · go_enter Try.func8, Try.ntmps8
    go_wp2_with (first | (go_at_call 22; refine (wknown _).mono ?_; rintro e w1 ⟨rfl, hb1⟩))
    go_ret
    exact ⟨rfl, hb1⟩
  by_cases h4 : 1152921504606846976 ≤ v
  · go_enter Try.func8, Try.ntmps8
    go_wp2_with (first | (go_at_call 22; refine (wknown _).mono ?_; rintro e w1 ⟨rfl, hb1⟩))
    go_ret
    exact ⟨rfl, hb1⟩
  have h1' : 0 ≤ x := by omega
  have h2' : x < 1152921504606846976 := by omega
  have h3' : 0 ≤ v := by omega
  have h4' : v < 1152921504606846976 := by omega
  clear h1 h2 h3 h4
  have hp := pk_back x ⟨h1', h2'⟩
  obtain ⟨hp1, hp2⟩ := hp
  have hlt := ix_lt x v ⟨h1', h2'⟩ ⟨h3', h4'⟩
  have hL := Lib.hid hlt
  clear hlt
  have htb := tg_bd x
  obtain ⟨ht1, ht2⟩ := htb
  have hvb := Lib.hid (ix_bd v)
  by_cases hc : ixV x < ixV v
  all_goals
    first | have hxv : x < v := hL.out hc | skip
    go_enter Try.func8, Try.ntmps8
    go_wp2_with (first | (go_at_call 22; refine (wknown _).mono ?_; rintro e w1 ⟨rfl, hb1⟩) | (go_at_call 23; refine (pack_any _ _ _).mono ?_; rintro e w' ⟨rfl, rfl⟩) | (go_at_call 25; refine (num_any _ _).mono ?_; rintro e w' ⟨rfl, rfl⟩) | (go_at_call 26; refine (index_any _ _).mono ?_; rintro e w' ⟨rfl, rfl⟩) | (go_at_call 28; refine (tag_any _ _).mono ?_; rintro e w' ⟨rfl, rfl⟩))
    clear hp1 hp2 hL hc
    go_loop [7, 8] (fun y j => ∃ (k : Nat) (X : Int), k ≤ 5 ∧ j = .int .i64 ((k : Int) + 1) ∧ y = .int .i64 X ∧ 0 ≤ X ∧ X < 1152921504606846976 ∧ Hid (X % 1099511627776 = (x + k) % 1099511627776)) (fun _ j => 6 - (intOf j).toNat)
    case atStart => exact ⟨0, x, by omega, rfl, rfl, h1', h2', Lib.hid (by simp)⟩
    case round =>
      obtain ⟨k, X, hk, rfl, rfl, hX1, hX2, HX⟩ := hrel
      by_cases hlt : k < 5
      · have hall := nx_back X x (ixV v) ((k : Int) + 1) k ⟨hX1, hX2⟩ hvb.out ⟨h1', h2'⟩ HX.out rfl
        obtain ⟨e1, e2, e3, e4, e5, e6⟩ := hall
        have H6 := Lib.hid e6
        clear e6
        obtain ⟨e7, e8⟩ := e5
        go_wp2_with (first | (go_at_call 30; refine (next_any _ _ _).mono ?_; rintro e w' ⟨rfl, rfl⟩) | (go_at_call 25; refine (num_any _ _).mono ?_; rintro e w' ⟨rfl, rfl⟩) | (go_at_call 26; refine (index_any _ _).mono ?_; rintro e w' ⟨rfl, rfl⟩) | (go_at_call 28; refine (tag_any _ _).mono ?_; rintro e w' ⟨rfl, rfl⟩))
        go_round
        case rel => exact ⟨k + 1, nxV X (ixV v), by omega, by go_num, rfl, e7, e8, H6⟩
        case measure => simp [intOf]; omega
      · obtain rfl : k = 5 := by omega
        go_wp2
        go_ret
        exact ⟨rfl, hb1⟩
set_option maxRecDepth 100000 in
set_option maxHeartbeats 1000000 in
theorem wordRanges_walk (k o n : Int) (w : World) (_ : (Lit.int .i64 k).wf = true) (_ : (Lit.int .i64 o).wf = true) (_ : (Lit.int .i64 n).wf = true) : Calls Try.prog 9 #[.int .i64 k, .int .i64 o, .int .i64 n] w fun e w' => e = .returned (.bool true) ∧ Below w.heap.size w w' := by
  by_cases h1 : n < 1
  · go_enter Try.func9, Try.ntmps9
    go_wp2_with (first | (go_at_call 22; refine (wknown _).mono ?_; rintro e w1 ⟨rfl, hb1⟩))
    go_ret
    exact ⟨rfl, hb1⟩
  by_cases h2 : 64 < n
  · go_enter Try.func9, Try.ntmps9
    go_wp2_with (first | (go_at_call 22; refine (wknown _).mono ?_; rintro e w1 ⟨rfl, hb1⟩))
    go_ret
    exact ⟨rfl, hb1⟩
  by_cases h3 : k < 0
  · go_enter Try.func9, Try.ntmps9
    go_wp2_with (first | (go_at_call 22; refine (wknown _).mono ?_; rintro e w1 ⟨rfl, hb1⟩))
    go_ret
    exact ⟨rfl, hb1⟩
  by_cases h4 : 4294967295 < k
  · go_enter Try.func9, Try.ntmps9
    go_wp2_with (first | (go_at_call 22; refine (wknown _).mono ?_; rintro e w1 ⟨rfl, hb1⟩))
    go_ret
    exact ⟨rfl, hb1⟩
  by_cases h5 : o < 0
  · go_enter Try.func9, Try.ntmps9
    go_wp2_with (first | (go_at_call 22; refine (wknown _).mono ?_; rintro e w1 ⟨rfl, hb1⟩))
    go_ret
    exact ⟨rfl, hb1⟩
  by_cases h6 : 4294967295 < o
  · go_enter Try.func9, Try.ntmps9
    go_wp2_with (first | (go_at_call 22; refine (wknown _).mono ?_; rintro e w1 ⟨rfl, hb1⟩))
    go_ret
    exact ⟨rfl, hb1⟩
  have h1' : 1 ≤ n := by omega
  have h2' : n ≤ 64 := by omega
  have h3' : 0 ≤ k := by omega
  have h4' : k ≤ 4294967295 := by omega
  have h5' : 0 ≤ o := by omega
  have h6' : o ≤ 4294967295 := by omega
  clear h1 h2 h3 h4 h5 h6
  have e1 : ptE k n = 0 := by rw [ptE, if_pos ⟨h3', h4'⟩, if_pos ⟨h1', h2'⟩]
  have e2 : ptE o n = 0 := by rw [ptE, if_pos ⟨h5', h6'⟩, if_pos ⟨h1', h2'⟩]
  have hb0 := bg_zero n h1'
  have hbn := bg_end n h1'
  have HB0 := Lib.hid hb0
  have HBN := Lib.hid hbn
  clear hb0 hbn
  by_cases hc : k ≤ o
  all_goals
    first | have hpo : ptV k n ≤ ptV o n := pt_mono k o n hc ⟨h3', h4'⟩ ⟨h5', h6'⟩ ⟨h1', h2'⟩ | skip
    go_enter Try.func9, Try.ntmps9
    go_wp2_with (first | (go_at_call 22; refine (wknown _).mono ?_; rintro e w1 ⟨rfl, hb1⟩) | (go_at_call 32; refine (part_any _ _ _).mono ?_; rintro e w' ⟨rfl, rfl⟩) | (go_at_call 25; refine (num_any _ _).mono ?_; rintro e w' ⟨rfl, rfl⟩))
    clear e1 e2
    go_loopw [11, 12] (fun l i wr => ∃ j : Nat, (j : Int) ≤ n ∧ i = .int .i64 j ∧ l = .int .i64 (bgV j n - 1) ∧ Below w.heap.size w wr) (fun _ i _ => 64 - (intOf i).toNat)
    case atStart => exact ⟨0, by omega, rfl, by rw [show ((0 : Nat) : Int) = 0 from rfl, HB0.out]; rfl, hb1⟩
    case round =>
      clear hb1
      obtain ⟨j, hj, rfl, rfl, hb1⟩ := hrel
      have hbj := bg_bd j n h1' (by omega) hj
      obtain ⟨hbj1, hbj2⟩ := hbj
      by_cases hlt : (j : Int) < n
      · have hbj := bg_bd (j + 1) n h1' (by omega) (by omega)
        obtain ⟨hbj3, hbj4⟩ := hbj
        have hlt2 := bg_lt j n ⟨h1', h2'⟩
        have el : rgL j n = bgV j n := by rw [rgL, if_pos (by omega)]
        have eh : rgH j n = bgV (j + 1) n - 1 := by rw [rgH, if_pos (by omega)]
        have ee : rgE j n = 0 := by rw [rgE, if_pos (by omega)]
        have hin := Lib.hid (in_part k j n ⟨h3', h4'⟩ ⟨h1', h2'⟩)
        have hin2 := Lib.hid (bg_le j k n h1')
        have hin3 := Lib.hid (bg_le (j + 1) k n h1')
        have hpk := Lib.hid (show ptV k n = k * n / 4294967296 by rw [ptV, if_pos (by omega)])
        by_cases c1 : bgV j n ≤ k
        · by_cases c2 : k ≤ bgV (j + 1) n - 1
          · have q1 : (j : Int) ≤ ptV k n := by have := hin.out; omega
            have q2 : ptV k n ≤ (j : Int) := by have := hin.out; omega
            have q3 : ((j : Int) == ptV k n) = true := by rw [beq_iff_eq]; omega
            clear q1 q2
            clear hin hin2 hin3 hpk
            generalize hA : bgV j n = A at *
            generalize hB : bgV (j + 1) n = B at *
            have HB := Lib.hid hB
            clear hA hB
            have hAB : A ≤ B - 1 := by omega
            go_wp2_with (first | (go_at_call 34; refine (range_any _ _ _).mono ?_; rintro e w2 ⟨rfl, hb2⟩) | (go_at_call 25; refine (num_any _ _).mono ?_; rintro e w' ⟨rfl, rfl⟩))
            go_roundw
            case rel => exact ⟨j + 1, by omega, by go_num, by rw [← HB.out]; go_num, hb1.trans (hb2.mono hb1.size)⟩
            case measure => simp [intOf]; omega
          · have q1 : (j : Int) < ptV k n := by have := hin3.out; have := hpk.out; omega
            have q3 : ((j : Int) == ptV k n) = false := by rw [beq_eq_false_iff_ne]; omega
            clear q1
            clear hin hin2 hin3 hpk
            generalize hA : bgV j n = A at *
            generalize hB : bgV (j + 1) n = B at *
            have HB := Lib.hid hB
            clear hA hB
            have hAB : A ≤ B - 1 := by omega
            go_wp2_with (first | (go_at_call 34; refine (range_any _ _ _).mono ?_; rintro e w2 ⟨rfl, hb2⟩) | (go_at_call 25; refine (num_any _ _).mono ?_; rintro e w' ⟨rfl, rfl⟩))
            go_roundw
            case rel => exact ⟨j + 1, by omega, by go_num, by rw [← HB.out]; go_num, hb1.trans (hb2.mono hb1.size)⟩
            case measure => simp [intOf]; omega
        · have q1 : ptV k n < (j : Int) := by have := hin2.out; have := hpk.out; omega
          have q3 : ((j : Int) == ptV k n) = false := by rw [beq_eq_false_iff_ne]; omega
          clear q1
          clear hin hin2 hin3 hpk
          generalize hA : bgV j n = A at *
          generalize hB : bgV (j + 1) n = B at *
          have HB := Lib.hid hB
          clear hA hB
          have hAB : A ≤ B - 1 := by omega
          go_wp2_with (first | (go_at_call 34; refine (range_any _ _ _).mono ?_; rintro e w2 ⟨rfl, hb2⟩) | (go_at_call 25; refine (num_any _ _).mono ?_; rintro e w' ⟨rfl, rfl⟩))
          go_roundw
          case rel => exact ⟨j + 1, by omega, by go_num, by rw [← HB.out]; go_num, hb1.trans (hb2.mono hb1.size)⟩
          case measure => simp [intOf]; omega
      · have hend : (bgV j n - 1 == 4294967295) = true := by
          rw [show (j : Int) = n from by omega, HBN.out]; rfl
        go_wp2
        go_ret
        exact ⟨rfl, hb1⟩
end Go.Proofs.Ytkeipanehjjmdaa
