import Derived.Test.YtmpgjnindbklaaaEStep2
import Derived.Test.YtmpgjnindbklaaaEGrid
namespace Go.Proofs.Ytmpgjnindbklaaa
open Go.RowKit BA Ex


theorem step_walk (sw st : Value) (s : St) (k : Int) (p : Lt) (w : World) (h : PHas w sw st p) (hp : check p = true) (hw : Wf p s) :
    Calls Try.prog 44 #[.agg (stA s.c s.bad), .agg #[sw, st], .int .i64 k] w fun e w' =>
      e = .returned (.tuple #[.agg (stA ((stepI p s k).getD s).c ((stepI p s k).getD s).bad), .bool (stepI p s k).isSome]) ∧ Below w.heap.size w w' := by
  obtain ⟨c, bad⟩ := s
  have hc := hw.len
  obtain ⟨⟨_, h8, _, h4⟩, hT⟩ := check_facts hp
  cases bad with
  | true =>
    have e : stepI p ⟨c, true⟩ k = none := by unfold stepI; split <;> simp [Ex.step]
    rw [e]
    exact step_bad sw st c k p w h hc
  | false =>
    by_cases h0 : 0 ≤ k
    · obtain ⟨k, rfl⟩ := Int.eq_ofNat_of_zero_le h0
      have e0 : stepI p ⟨c, false⟩ (k : Int) = Ex.step p ⟨c, false⟩ k := by unfold stepI; rw [if_pos h0]; rfl
      rw [e0]
      by_cases hk : k < p.threads.length
      · cases hl : lineAt p c k with
        | none =>
          have e : Ex.step p ⟨c, false⟩ k = none := by simp [Ex.step, hl]
          rw [e]
          exact step_over sw st c k p w h hc hk h4 (lineAt_none hk hl)
        | some x =>
          obtain ⟨_, hlt, hx⟩ := lineAt_some hl
          have hn := (hw.at' k hk).1
          dsimp only at hn
          obtain ⟨i, hi⟩ := Int.eq_ofNat_of_zero_le hn
          have hilt : i < (p.threads.getD k []).length := by omega
          have hxi : (p.threads.getD k []).getD i default = x := by rw [hx, hi]; rfl
          have e : Ex.step p ⟨c, false⟩ k = some (stepped c k x i) := by
            simp only [Ex.step, hl, stepped, hi, Nat.mul_comm 4 k]
            rfl
          rw [e]
          exact step_can sw st c k i x p w h hc hk h4 hilt hxi hi h8 (by rw [← hxi]; exact (hT k hk).2 i hilt)
      · have e : Ex.step p ⟨c, false⟩ k = none := by
          have : lineAt p c k = none := by unfold lineAt; rw [List.getElem?_eq_none (by omega)]
          simp [Ex.step, this]
        rw [e]
        exact step_high sw st c k p w h hc h0 (by omega)
    · have e : stepI p ⟨c, false⟩ k = none := by unfold stepI; rw [if_neg h0]
      rw [e]
      exact step_low sw st c k p w h hc (by omega)

end Go.Proofs.Ytmpgjnindbklaaa
