/-
  The contract of slices.IndexFunc at the test that Order.Pick hands it: the place of the first one above who stepped last.
-/
import Derived.Test.YtkeipanehjjmdaaProg
import Derived.Test.YtkeipanehjjmdaaTSpec
import Derived.LoopTactic
namespace Go.Proofs.Ytkeipanehjjmdaa
open Go.RowKit BA TU
set_option maxRecDepth 100000 in
set_option maxHeartbeats 1000000 in
theorem indexFunc_turn (rb ro rc N ob : Nat) (L : List Nat) (last : Int) (w : World) (hlen : L.length ≤ 1000000000)
    (hr : ∀ j, j < L.length → w.cell? ⟨rb, ro + j, none⟩ = some (.int .i64 (L.getD j 0 : Nat))) (hbx : w.cell? ⟨N, 0, none⟩ = some (.pointer (some ⟨ob, 0, none⟩))) (hc2 : w.cell? ⟨ob, 1, none⟩ = some (.int .i64 last)) :
    Calls Try.prog 41 #[.slice (some ⟨rb, ro, none⟩) L.length rc, .func (Fn.func 42) #[] #[.pointer (some ⟨N, 0, none⟩)]] w fun e w' => e = .returned (.int .i64 (ix last L)) ∧ w = w' := by
  have HR := Lib.hid hr
  clear hr
  go_enter Try.func41, Try.ntmps41
  go_wp2
  go_loop [8] (fun i => ∃ k : Nat, k ≤ L.length ∧ i = .int .i64 k ∧ Hid (∀ j, j < k → ((L.getD j 0 : Nat) : Int) ≤ last)) (fun i => L.length - (intOf i).toNat)
  case atStart => exact ⟨0, by omega, rfl, Lib.hid fun j hj => by omega⟩
  case round =>
    obtain ⟨k, hk, rfl, hno⟩ := hrel
    by_cases hlt : k < L.length
    · have hcx := HR.out k hlt
      obtain ⟨y, hy⟩ : ∃ y, L.getD k 0 = y := ⟨_, rfl⟩
      rw [hy] at hcx
      have HY := Lib.hid hy
      clear hy
      by_cases hit : last < (y : Int)
      · go_wp2
        go_ret
        exact ⟨ret1 (ix_hit last L k hlt (by rw [HY.out]; exact hit) hno.out).1.symm, rfl⟩
      · go_wp2
        go_round
        case rel => exact ⟨k + 1, by omega, by go_num, Lib.hid fun j hj => by
          by_cases e : j = k
          · rw [e, HY.out]; omega
          · exact hno.out j (by omega)⟩
        case measure => simp [intOf]; omega
    · obtain rfl : k = L.length := by omega
      go_wp2
      go_ret
      exact ⟨ret1 (ix_none last L hno.out).1.symm, rfl⟩
end Go.Proofs.Ytkeipanehjjmdaa
