/-
  The contract of the reference's Copy.
-/
import Derived.Test.YtkeipanehjjmdaaTMake
import Derived.Test.YtkeipanehjjmdaaBase2
namespace Go.Proofs.Ytkeipanehjjmdaa
open Go.RowKit BA TU
set_option maxHeartbeats 1000000 in
theorem rcopy_any (ob : Nat) (lv : Value) (left : List Int) (last : Int) (w : World) (ho : OrdP w 55 ob lv left last) (hlen : left.length ≤ 1000000000) :
    Calls Try.prog 21 #[.pointer (some ⟨ob, 0, none⟩)] w (NewPost 55 w left last) := by
  obtain ⟨i0, hi, hz0, hz1, hz2⟩ := info_parts info_int
  have hc1 : w.cell? ⟨ob, 0, none⟩ = some lv := by simp [World.cell?, ho.1]
  have hc2 : w.cell? ⟨ob, 1, none⟩ = some (.int .i64 last) := by simp [World.cell?, ho.1]
  have hob : ob < w.heap.size := lt_of_block ho.1
  have hr := Lib.hid ho.2.1
  clear ho
  go_enter Try.func21, Try.ntmps21
  go_wp2
  go_region_law (refine step_append_reads rfl _ _ 22 rfl w.heap.size 3 i0 (.int .i64 0) 8 Try.underlying22 hi hz0 hz1 hz2 rfl _ 0 [] rfl (OwnS.nil _ _ _) _ (left.map (Value.int .i64)) rfl hr.out.drew (ints_one left) (by simp; unfold maxLen; omega) (by simp; omega) (by exact Nat.le_refl _) ?_; intro v w1 q1 q2 q3; have hf1 := q1.blk; have hb1 : Below w.heap.size w w1 := ((Below.refl _ _).drew).grown q2 (Nat.le_refl _) (fun k hk => by cases hk); have hr1 := q1.reads; rw [List.nil_append] at hr1; obtain ⟨ao, c, hv⟩ := ints_shape hr1; clear q1 q2 q3; have hcx : w1.cell? ⟨ob, 1, none⟩ = some (.int .i64 last) := (Below.cell (w := w) hb1 (p := ⟨ob, 1, none⟩) (by exact hob)).trans hc2; rw [hv] at hf1 hr1 ⊢; clear hv)
  all_goals go_wp2
  all_goals go_ret
  all_goals
    have hend := new_mk (T := 55) (last := last) hr1 hb1 hf1
    exact ⟨w1.heap.size, _, rfl, hend.1, hend.2, hb1.size, fun k hk => ⟨(hf1 k hk).1, by have := (hf1 k hk).2; simp; omega⟩⟩
end Go.Proofs.Ytkeipanehjjmdaa
