/-
  The size test of the statements of layer 2.
-/
import Derived.Test.YtkeipanehjjmdaaTKnown
import Derived.Test.YtkeipanehjjmdaaOpen
namespace Go.Proofs.Ytkeipanehjjmdaa
open Go.RowKit BA TU
theorem Reads.lt {w : World} {b o n c : Nat} {xs : List Value} (h : Reads w (.slice (some ⟨b, o, none⟩) n c) xs) (h0 : 0 < xs.length) : b < w.heap.size := by
  rcases h with ⟨rfl, _⟩ | ⟨hne, b', o', c', hv, _, _, h3⟩
  · simp at h0
  · cases hv
    obtain ⟨x, hx⟩ : ∃ x, xs[0]? = some x := ⟨xs[0], by simp⟩
    exact World.block_lt_of_cell? w _ (h3 0 x hx)
theorem Grid.opened {w : World} {v : Value} {ls : List (List Bool)} (h : Grid w v ls) :
    (ls = [] ∧ ∃ ao c, v = .slice ao 0 c) ∨ ∃ b o c, ∃ V : Nat → Value, v = .slice (some ⟨b, o, none⟩) ls.length c ∧ 0 < ls.length ∧ b < w.heap.size ∧ ∀ k, k < ls.length → w.cell? ⟨b, o + k, none⟩ = some (V k) ∧ Reads w (V k) (bools (ls.getD k [])) := by
  obtain ⟨V, hr, hv⟩ := h
  have hr' := hr
  rcases hr with ⟨hnil, ao, c, rfl, _, _⟩ | ⟨hne, b, o, c, rfl, h1, h2, h3⟩
  · exact .inl ⟨by simpa using hnil, ao, c, rfl⟩
  · have h0 : 0 < ls.length := by
      cases ls with
      | nil => simp at hne
      | cons _ _ => simp
    have hlen : ((List.range ls.length).map V).length = ls.length := by simp
    rw [hlen] at hr' ⊢
    exact .inr ⟨b, o, c, V, rfl, h0, Reads.lt hr' (by rw [hlen]; exact h0), fun k hk => ⟨h3 k _ (by simp [hk]), hv k hk⟩⟩
def sumTo (ls : List (List Bool)) (k : Nat) : Nat := ((ls.take k).map List.length).sum
theorem sumTo_zero (ls : List (List Bool)) : sumTo ls 0 = 0 := by simp [sumTo]
theorem sumTo_succ (ls : List (List Bool)) (k : Nat) (h : k < ls.length) : sumTo ls (k + 1) = sumTo ls k + (ls.getD k []).length := by
  unfold sumTo
  rw [List.take_succ_eq_append_getElem h, List.map_append, List.sum_append]
  simp [h]
theorem sumTo_le (ls : List (List Bool)) (k : Nat) : ∀ j, k + j ≤ ls.length → sumTo ls k ≤ sumTo ls (k + j)
  | 0, _ => Nat.le_refl _
  | j + 1, h => by
    have := sumTo_le ls k j (by omega)
    have h2 := sumTo_succ ls (k + j) (by omega)
    rw [show k + (j + 1) = k + j + 1 by omega]; omega
theorem sumTo_all (ls : List (List Bool)) (k : Nat) (h : k ≤ ls.length) : sumTo ls k ≤ sumTo ls ls.length := by
  have := sumTo_le ls k (ls.length - k) (by omega)
  rwa [show k + (ls.length - k) = ls.length by omega] at this
/-- How large turns and a script are, as the statements count. -/
def tot (ts : List Int) (ls : List (List Bool)) : Nat := ts.length + ls.length + sumTo ls ls.length
theorem row_le (ls : List (List Bool)) (k : Nat) (h : k < ls.length) : (ls.getD k []).length ≤ sumTo ls ls.length := by
  have := sumTo_succ ls k h
  have := sumTo_all ls (k + 1) (by omega)
  omega
set_option maxRecDepth 100000 in
set_option maxHeartbeats 1000000 in
theorem small_any (tv sv : Value) (ts : List Int) (ls : List (List Bool)) (w : World) (ht : Reads w tv (ts.map (Value.int .i64))) (hs : Grid w sv ls) (h1 : ts.length ≤ 140737488351232) (h2 : ls.length ≤ 140737488351232)
    (h3 : ∀ l ∈ ls, l.length ≤ 140737488351232) :
    Calls Try.prog 13 #[tv, sv] w fun e w' => e = .returned (.bool (decide (tot ts ls ≤ 20000))) ∧ w = w' := by
  obtain ⟨ao, c, rfl⟩ := ints_shape ht
  clear ht
  rcases Grid.opened hs with ⟨rfl, ao', c', rfl⟩ | ⟨b, o, c', V, rfl, h0, _, hcell⟩
  · have hT : (decide (tot ts [] ≤ 20000)) = decide ((ts.length : Int) ≤ 20000) := by
      have : tot ts [] = ts.length := by simp [tot, sumTo]
      rw [this, decide_eq_decide]; omega
    rw [hT]
    go_enter Try.func13, Try.ntmps13
    go_wp2
    go_loop [5, 6] (fun n i => n = .int .i64 ts.length ∧ i = .int .i64 0) (fun _ _ => 0)
    case atStart => exact ⟨rfl, rfl⟩
    case round =>
      obtain ⟨rfl, rfl⟩ := hrel
      go_wp2
      go_ret
      exact ⟨rfl, rfl⟩
  · have HC := Lib.hid hcell
    have H3 := Lib.hid h3
    clear hcell h3
    generalize hT : decide (tot ts ls ≤ 20000) = R at *
    have HT := Lib.hid hT
    clear hT
    go_enter Try.func13, Try.ntmps13
    go_wp2
    go_loop [5, 6] (fun n i => ∃ k s : Nat, k ≤ ls.length ∧ i = .int .i64 k ∧ n = .int .i64 s ∧ s ≤ 140737488351232 * 3 ∧ Hid (s = ts.length + ls.length + sumTo ls k)) (fun _ i => ls.length - (intOf i).toNat)
    case atStart => exact ⟨0, ts.length + ls.length, by omega, rfl, by go_num, by omega, Lib.hid (by rw [sumTo_zero]; rfl)⟩
    case round =>
      obtain ⟨k, s, hk, rfl, rfl, hs3, HS⟩ := hrel
      by_cases hlt : k < ls.length
      · by_cases hle : (s : Int) ≤ 20000
        · obtain ⟨hcx, hrx⟩ := HC.out k hlt
          have hrl := H3.out (ls.getD k []) (by rw [List.getD_eq_getElem?_getD, List.getElem?_eq_getElem hlt]; exact List.getElem_mem hlt)
          obtain ⟨ao2, c2, hsh⟩ := hrx.shape
          have hbl : (bools (ls.getD k [])).length = (ls.getD k []).length := by simp [bools]
          rw [hbl] at hsh
          rw [hsh] at hcx
          have hnx := Lib.hid (sumTo_succ ls k hlt)
          clear hsh hrx hbl
          generalize (ls.getD k []).length = m at *
          go_wp2
          go_round
          case rel => exact ⟨k + 1, s + m, by omega, by go_num, by go_num, by omega, Lib.hid (by rw [hnx.out, HS.out]; omega)⟩
          case measure => simp [intOf]; omega
        · have hR : R = false := by
            rw [← HT.out, decide_eq_false_iff_not]
            have := sumTo_all ls k hk
            have := HS.out
            unfold tot; omega
          subst hR
          go_wp2
          go_ret
          exact ⟨rfl, rfl⟩
      · obtain rfl : k = ls.length := by omega
        by_cases hle : (s : Int) ≤ 20000
        · have hR : R = true := by
            rw [← HT.out, decide_eq_true_eq]
            have := HS.out
            unfold tot; omega
          subst hR
          go_wp2
          go_ret
          exact ⟨rfl, rfl⟩
        · have hR : R = false := by
            rw [← HT.out, decide_eq_false_iff_not]
            have := HS.out
            unfold tot; omega
          subst hR
          go_wp2
          go_ret
          exact ⟨rfl, rfl⟩
end Go.Proofs.Ytkeipanehjjmdaa
