import Derived.Test.YtmpgjnindbklaaaEGrid
import Derived.Test.YtmpgjnindbklaaaEChk1
import Derived.Test.YtmpgjnindbklaaaERef2
import Derived.Handy
namespace Go.Proofs.Ytmpgjnindbklaaa
open Go.RowKit BA Ex

set_option maxRecDepth 100000 in
set_option maxHeartbeats 4000000 in
theorem refAt_walk (sw st : Value) (p : Lt) (k : Nat) (w : World) (h : PHas w sw st p) (h8 : p.words.length ≤ 8) (hk : k ≤ 4) :
    Calls Try.prog 50 #[.agg #[sw, st], .int .i64 k] w fun e w' => e = .returned (.int .i64 ((p.words.length + 5 * k : Nat) : Int)) ∧ Below w.heap.size w w' := by
  obtain ⟨aw, cw, rfl⟩ := h.words_shape
  clear h
  go_enter Try.func50, Try.ntmps50
  go_wp2
  go_ret
  exact ⟨congrArg (fun b => Ending.returned (.int .i64 b)) (by simp [go_sem]; try omega), (Below.refl _ _).alloc (Nat.le_refl _) _⟩

set_option maxRecDepth 100000 in
set_option maxHeartbeats 4000000 in
theorem refBad_walk (sv : Value) (xs : List Int) (w : World) (h : Reads w sv (ints xs)) (h0 : 0 < xs.length) (h1 : xs.length ≤ 1000) :
    Calls Try.prog 28 #[sv] w fun e w' => e = .returned (.bool (g xs (xs.length - 1) == 1)) ∧ w' = w := by
  obtain ⟨b, o, c, rfl, hb⟩ := ints_form h h0
  have hq := ints_at h (k := xs.length - 1) (by omega)
  have hq' : w.cell? ⟨b, o + (xs.length - 1), none⟩ = some (.int .i64 (g xs (xs.length - 1))) := hq
  generalize g xs (xs.length - 1) = v at hq' ⊢
  clear h hq
  obtain ⟨m, hm⟩ : ∃ m, xs.length = m + 1 := ⟨xs.length - 1, by omega⟩
  rw [hm] at hq' h1 ⊢
  simp only [Nat.add_sub_cancel] at hq'
  clear hm h0
  go_enter Try.func28, Try.ntmps28
  go_wp2
  go_ret
  exact ⟨rfl, rfl⟩
end Go.Proofs.Ytmpgjnindbklaaa
