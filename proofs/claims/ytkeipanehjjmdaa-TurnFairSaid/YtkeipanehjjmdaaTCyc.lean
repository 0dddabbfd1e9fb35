/-
  Round and round: behind the last turn, of as many picks in a row as are ready each ready one is picked once. No program in sight.
-/
import Derived.Test.YtkeipanehjjmdaaTSpec
namespace Go.Proofs.Ytkeipanehjjmdaa.TU
open Go.RowKit
theorem rdy_sorted (l : List Bool) : (rdy l).Pairwise (· < ·) := by
  unfold rdy rdyTo
  exact List.Pairwise.filter _ List.pairwise_lt_range
theorem rdy_lt (l : List Bool) (i j : Nat) (hij : i < j) (hj : j < (rdy l).length) : (rdy l).getD i 0 < (rdy l).getD j 0 := by
  have h := List.pairwise_iff_getElem.1 (rdy_sorted l) i j (by omega) hj hij
  simpa [show i < (rdy l).length by omega, hj] using h
theorem rdy_inj (l : List Bool) (i j : Nat) (hi : i < (rdy l).length) (hj : j < (rdy l).length) (h : (rdy l).getD i 0 = (rdy l).getD j 0) : i = j := by
  rcases Nat.lt_trichotomy i j with h1 | h1 | h1
  · have := rdy_lt l i j h1 hj; omega
  · exact h1
  · have := rdy_lt l j i h1 hi; omega
theorem rdy_mem (l : List Bool) (i : Nat) (hi : i < (rdy l).length) : (rdy l).getD i 0 < l.length ∧ l.getD ((rdy l).getD i 0) false = true := by
  apply rdy_is
  simp [hi]
/-- Behind who stands at place q comes who stands at the next place, round. -/
theorem nxt_step (l : List Bool) (q : Nat) (hq : q < (rdy l).length) : nxt ((rdy l).getD q 0 : Nat) (rdy l) = (rdy l).getD ((q + 1) % (rdy l).length) 0 := by
  by_cases h : q + 1 < (rdy l).length
  · rw [Nat.mod_eq_of_lt h]
    refine (ix_hit _ _ (q + 1) h ?_ fun j hj => ?_).2
    · have := rdy_lt l q (q + 1) (by omega) h; omega
    · by_cases e : j = q
      · rw [e]; omega
      · have := rdy_lt l j q (by omega) hq; omega
  · have e : q + 1 = (rdy l).length := by omega
    rw [e, Nat.mod_self]
    refine (ix_none _ _ fun j hj => ?_).2
    by_cases e : j = q
    · rw [e]; omega
    · have := rdy_lt l j q (by omega) hq; omega
theorem nxt_place (last : Int) (l : List Bool) (h : 0 < (rdy l).length) : ∃ p, p < (rdy l).length ∧ nxt last (rdy l) = (rdy l).getD (p % (rdy l).length) 0 := by
  obtain ⟨x, hx, _, hn⟩ := ix_any last (rdy l) h
  exact ⟨x, hx, by rw [Nat.mod_eq_of_lt hx]; exact hn⟩
/-- Who was met in a round, behind i picks from place p on. -/
def Met (l : List Bool) (p i : Nat) (m : List Bool) : Prop :=
  m.length = l.length ∧ ∀ j, j < l.length → (m.getD j false = true ↔ ∃ t, t < i ∧ j = (rdy l).getD ((p + t) % (rdy l).length) 0)
theorem Met.begin (l : List Bool) (p : Nat) : Met l p 0 (List.replicate l.length false) := by
  refine ⟨by simp, fun j hj => ?_⟩
  simp [hj]
theorem Met.not {l : List Bool} {p i : Nat} {m : List Bool} (h : Met l p i m) (hp : p < (rdy l).length) (hi : i < (rdy l).length) : m.getD ((rdy l).getD ((p + i) % (rdy l).length) 0) false = false := by
  have hn : 0 < (rdy l).length := by omega
  have hx := rdy_mem l ((p + i) % (rdy l).length) (Nat.mod_lt _ hn)
  cases hm : m.getD ((rdy l).getD ((p + i) % (rdy l).length) 0) false with
  | false => rfl
  | true =>
    obtain ⟨t, ht, he⟩ := (h.2 _ hx.1).1 hm
    have := rdy_inj l _ _ (Nat.mod_lt _ hn) (Nat.mod_lt _ hn) he
    have e1 : (p + i) % (rdy l).length = if p + i < (rdy l).length then p + i else p + i - (rdy l).length := by
      split
      · next h => exact Nat.mod_eq_of_lt h
      · next h => rw [Nat.mod_eq_sub_mod (by omega), Nat.mod_eq_of_lt (by omega)]
    have e2 : (p + t) % (rdy l).length = if p + t < (rdy l).length then p + t else p + t - (rdy l).length := by
      split
      · next h => exact Nat.mod_eq_of_lt h
      · next h => rw [Nat.mod_eq_sub_mod (by omega), Nat.mod_eq_of_lt (by omega)]
    rw [e1, e2] at this
    split at this <;> split at this <;> omega
theorem Met.step {l : List Bool} {p i : Nat} {m : List Bool} (h : Met l p i m) (_hn : 0 < (rdy l).length) : Met l p (i + 1) (m.set ((rdy l).getD ((p + i) % (rdy l).length) 0) true) := by
  refine ⟨by simp [h.1], fun j hj => ?_⟩
  have hjm : j < m.length := by rw [h.1]; exact hj
  by_cases e : (rdy l).getD ((p + i) % (rdy l).length) 0 = j
  · rw [e]
    simp only [List.getD_eq_getElem?_getD, List.getElem?_set, hjm]
    simp
    exact ⟨i, by omega, by simpa [List.getD_eq_getElem?_getD] using e.symm⟩
  · have e2 : (m.set ((rdy l).getD ((p + i) % (rdy l).length) 0) true).getD j false = m.getD j false := by
      simp only [List.getD_eq_getElem?_getD] at e ⊢
      rw [List.getElem?_set_ne e]
    rw [e2, h.2 j hj]
    constructor
    · rintro ⟨t, ht, he⟩; exact ⟨t, by omega, he⟩
    · rintro ⟨t, ht, he⟩
      have : t ≠ i := fun h => e (by rw [he, h])
      exact ⟨t, by omega, he⟩
end Go.Proofs.Ytkeipanehjjmdaa.TU
