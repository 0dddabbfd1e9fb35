/-
  The walks of WordParts and WordBits: they return true and change nothing that was there.
-/
import Derived.Test.YtkeipanehjjmdaaWord6
namespace Go.Proofs.Ytkeipanehjjmdaa
open Go.RowKit WM
set_option maxRecDepth 100000 in
set_option maxHeartbeats 1000000 in
theorem wordParts_walk (k p n : Int) (w : World) (_ : (Lit.int .i64 k).wf = true) (_ : (Lit.int .i64 p).wf = true) (_ : (Lit.int .i64 n).wf = true) : Calls Try.prog 7 #[.int .i64 k, .int .i64 p, .int .i64 n] w fun e w' => e = .returned (.bool true) ∧ Below w.heap.size w w' := by
  go_enter Try.func7, Try.ntmps7
  go_wp2_with (first | (go_at_call 22; refine (wknown _).mono ?_; rintro e w1 ⟨rfl, hb1⟩) | (go_at_call 32; refine (part_any _ _ _).mono ?_; rintro e w' ⟨rfl, rfl⟩) | (go_at_call 33; refine (rpart_any _ _ _).mono ?_; rintro e w' ⟨rfl, rfl⟩) | (go_at_call 25; refine (num_any _ _).mono ?_; rintro e w' ⟨rfl, rfl⟩) | (go_at_call 34; refine (range_any _ _ _).mono ?_; rintro e w2 ⟨rfl, hb2⟩) | (go_at_call 35; refine (rrange_any _ _ _).mono ?_; rintro e w' ⟨rfl, rfl⟩))
  go_ret
  exact ⟨rfl, hb1.trans (hb2.mono hb1.size)⟩
set_option maxRecDepth 100000 in
set_option maxHeartbeats 1000000 in
theorem wordBits_walk (k o p : Int) (w : World) (_ : (Lit.int .i64 k).wf = true) (_ : (Lit.int .i64 o).wf = true) (_ : (Lit.int .i64 p).wf = true) : Calls Try.prog 10 #[.int .i64 k, .int .i64 o, .int .i64 p] w fun e w' => e = .returned (.bool true) ∧ Below w.heap.size w w' := by
  go_enter Try.func10, Try.ntmps10
  go_wp2_with (first | (go_at_call 22; refine (wknown _).mono ?_; rintro e w1 ⟨rfl, hb1⟩) | (go_at_call 36; refine (bit_any _ _ _).mono ?_; rintro e w' ⟨rfl, rfl⟩) | (go_at_call 37; refine (rbit_any _ _ _).mono ?_; rintro e w' ⟨rfl, rfl⟩) | (go_at_call 25; refine (num_any _ _).mono ?_; rintro e w' ⟨rfl, rfl⟩) | (go_at_call 38; refine (place_any _ _ _).mono ?_; rintro e w' ⟨rfl, rfl⟩) | (go_at_call 39; refine (rplace_any _ _ _).mono ?_; rintro e w' ⟨rfl, rfl⟩))
  go_ret
  exact ⟨rfl, hb1⟩
end Go.Proofs.Ytkeipanehjjmdaa
