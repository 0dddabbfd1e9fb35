/-
  The chapter's examples, as the statements of layer 1 ask them first: they hold.
-/
import Derived.Test.YtkeipanehjjmdaaWord4
namespace Go.Proofs.Ytkeipanehjjmdaa
open Go.RowKit WM
theorem num_any (x : Int) (w : World) : Calls Try.prog 25 #[.int .i64 x] w fun e w' => e = .returned (.int .i64 x) ∧ w = w' := by
  go_enter Try.func25, Try.ntmps25
  go_wp2
  go_ret
  exact ⟨rfl, rfl⟩
set_option maxRecDepth 100000 in
set_option maxHeartbeats 1000000 in
theorem wknown (w : World) : Calls Try.prog 22 #[] w fun e w' => e = .returned (.bool true) ∧ Below w.heap.size w w' := by
  have a1 : pkV 3 5 = 3298534883333 := by decide
  have a2 : pkE 3 5 = 0 := by decide
  have b1 : nxV 3298534883333 4 = 4398046511110 := by decide
  have b2 : nxE 3298534883333 4 = 0 := by decide
  have c1 : pkV 1 1099511627775 = 2199023255551 := by decide
  have d1 : nxV 2199023255551 1 = 1099511627776 := by decide
  have d2 : nxE 2199023255551 1 = 0 := by decide
  have z1 : pkV 1 0 = 1099511627776 := by decide
  have i1 : ixV 3298534883333 = 3 := by decide
  have t1 : tgV 3298534883333 = 5 := by decide
  have p1 : plV 4 6 = 1 := by decide +kernel
  have q1 : plV 0 4294967295 = 31 := by decide +kernel
  have r1 : plV 7 7 = -1 := by decide +kernel
  have r2 : plE 7 7 = 0 := by decide +kernel
  have k1 : ptV 4294967295 3 = 2 := by decide
  have l1 : rgL 1 3 = 1431655766 := by decide
  have l2 : rgH 1 3 = 2863311530 := by decide
  have l3 : rgE 1 3 = 0 := by decide
  have j1 : pkE 1048576 (-1) = 10 := by decide
  go_enter Try.func22, Try.ntmps22
  go_wp2_with (first | (go_at_call 23; refine (pack_any _ _ _).mono ?_; rintro e w' ⟨rfl, rfl⟩) | (go_at_call 30; refine (next_any _ _ _).mono ?_; rintro e w' ⟨rfl, rfl⟩) | (go_at_call 25; refine (num_any _ _).mono ?_; rintro e w' ⟨rfl, rfl⟩) | (go_at_call 26; refine (index_any _ _).mono ?_; rintro e w' ⟨rfl, rfl⟩) | (go_at_call 28; refine (tag_any _ _).mono ?_; rintro e w' ⟨rfl, rfl⟩) | (go_at_call 38; refine (place_any _ _ _).mono ?_; rintro e w' ⟨rfl, rfl⟩) | (go_at_call 32; refine (part_any _ _ _).mono ?_; rintro e w' ⟨rfl, rfl⟩) | (go_at_call 34; refine (range_any _ _ _).mono ?_; rintro e w1 ⟨rfl, hb⟩) | go_in)
  go_ret
  exact ⟨rfl, hb⟩
end Go.Proofs.Ytkeipanehjjmdaa
