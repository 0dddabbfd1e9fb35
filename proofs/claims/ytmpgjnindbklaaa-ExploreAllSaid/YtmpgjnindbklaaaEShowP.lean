import Derived.Test.YtmpgjnindbklaaaETurnP
import Derived.Test.YtmpgjnindbklaaaEFollowsW
/-! What ExploreShows says, plainly: the turns that are told, and any others. -/
namespace Go.Proofs.Ytmpgjnindbklaaa.Ex
open Go.Proofs.Ytmpgjnindbklaaa

theorem turns_push (p : Lt) (xs : List Int) (k : Int) : turns p (xs ++ [k]) = turn p (turns p xs) k := by
  unfold turns
  rw [List.foldl_append]
  rfl
theorem stepI_nat (p : Lt) (s : St) (k : Nat) : stepI p s (k : Int) = step p s k := by
  unfold stepI
  rw [if_pos (by omega)]
  rfl
/-- The turns back from a state, followed. -/
theorem turns_back {p : Lt} {l : List Met} (h : Reach p l) : ∀ k, k < l.length → (turns p (backs l k).reverse).1 = (at' l k).s ∧ (turns p (backs l k).reverse).2.length = level l k := by
  intro k
  induction k using Nat.strongRecOn with
  | _ k ih =>
    intro hk
    by_cases h0 : 0 < k
    · obtain ⟨a, b, _, h1, h2, h3, h4⟩ := h.level_succ h0 hk
      obtain ⟨i1, i2⟩ := ih a h1 (by omega)
      rw [h4, List.reverse_cons, turns_push]
      unfold turn
      rw [i1, stepI_nat, h2]
      exact ⟨rfl, by rw [h3, List.length_append, i2]; rfl⟩
    · obtain rfl : k = 0 := by omega
      have e : backs l 0 = [] := List.length_eq_zero_iff.1 h.level_zero
      rw [e, h.level_zero, h.head]
      exact ⟨rfl, rfl⟩
/-- Whatever turns come to is so many steps away. -/
theorem turns_path (p : Lt) (xs : List Int) : Path p (turns p xs).2.length (turns p xs).1 := by
  suffices h : ∀ (xs : List Int) (y : St × List (List Int)), Path p y.2.length y.1 → Path p (xs.foldl (turn p) y).2.length (xs.foldl (turn p) y).1 from h xs _ .first
  intro xs
  induction xs with
  | nil => exact fun y hy => hy
  | cons k xs ih =>
    intro y hy
    refine ih _ ?_
    unfold turn
    cases hs : stepI p y.1 k with
    | none => exact hy
    | some s =>
      unfold stepI at hs
      split at hs
      · simp only [List.length_append, List.length_singleton]
        exact .step hy hs
      · cases hs
/-- The last row is the state's. -/
theorem turns_last (p : Lt) (xs : List Int) : (turns p xs).2 = [] ∨ ∃ rows, (turns p xs).2 = rows ++ [full p (turns p xs).1] := by
  suffices h : ∀ (xs : List Int) (y : St × List (List Int)), (y.2 = [] ∨ ∃ rows, y.2 = rows ++ [full p y.1]) → ((xs.foldl (turn p) y).2 = [] ∨ ∃ rows, (xs.foldl (turn p) y).2 = rows ++ [full p (xs.foldl (turn p) y).1]) from h xs _ (.inl rfl)
  intro xs
  induction xs with
  | nil => exact fun y hy => hy
  | cons k xs ih =>
    intro y hy
    refine ih _ ?_
    unfold turn
    cases hs : stepI p y.1 k with
    | none => exact hy
    | some s => exact .inr ⟨y.2, rfl⟩
theorem find_any {l : List Met} (h : l.any (·.s.bad) = true) : ∃ i, l.findIdx? (·.s.bad) = some i := by
  cases hh : l.findIdx? (·.s.bad) with
  | some i => exact ⟨i, rfl⟩
  | none =>
    rw [List.findIdx?_eq_none_iff] at hh
    obtain ⟨m, hm, hmb⟩ := List.any_eq_true.1 h
    simp [hh m hm] at hmb

/-- The turns that are told come to a bad state; without the last one none does. -/
theorem shows_bad {p : Lt} {l : List Met} (h : Reach p l) (hb : (told p l).bad = true) :
    (told p l).turns.length ≤ 20000 ∧ (turns p (told p l).turns).1.bad = true ∧ (turns p (told p l).turns).2.length = (told p l).turns.length ∧ (told p l).turns.length ≠ 0 ∧ (turns p ((told p l).turns.take ((told p l).turns.length - 1))).1.bad = false := by
  obtain ⟨i, hi⟩ := find_any hb
  obtain ⟨h1, h2, h3, _⟩ := first_bad h hi
  have ht : (told p l).turns = (backs l i).reverse := by
    unfold told
    simp only [hi]
    rw [back_enough h.lnk (l.length + 1) (i + 1) i h1 (by omega) (by omega)]
    rfl
  have hi0 : 0 < i := by
    apply Classical.byContradiction
    intro hh
    obtain rfl : i = 0 := by omega
    rw [h.head] at h2
    cases h2
  obtain ⟨a, b, _, k1, k2, k3, k4⟩ := h.level_succ hi0 h1
  obtain ⟨t1, t2⟩ := turns_back h i h1
  obtain ⟨u1, _⟩ := turns_back h a (by omega)
  have hle := backs_len h.lnk i h1
  have hsh := h.short
  have hmost : most = 20000 := rfl
  have hlen : (backs l i).length = level l a + 1 := k3
  rw [ht]
  refine ⟨by rw [List.length_reverse]; omega, by rw [t1]; exact h2, by rw [t2, List.length_reverse]; rfl, by rw [List.length_reverse]; omega, ?_⟩
  have e : (backs l i).reverse.take ((backs l i).reverse.length - 1) = (backs l a).reverse := by
    rw [k4, List.reverse_cons, List.length_append]
    simp
  rw [e, u1]
  obtain ⟨_, _, hmin⟩ := List.findIdx?_eq_some_iff_getElem.1 hi
  have := hmin a k1
  have ha : a < l.length := by omega
  have ea : at' l a = l[a] := by simp [at', List.getD_eq_getElem?_getD, ha]
  rw [ea]
  simpa using this
/-- No other turns come to a bad state in fewer steps. -/
theorem shows_least {p : Lt} {l : List Met} (h : Reach p l) (xs : List Int) (hb : (turns p xs).1.bad = true) : (told p l).bad = true ∧ (told p l).turns.length ≤ (turns p xs).2.length := by
  have hpa := turns_path p xs
  have hm := (h.mem_iff _).2 ⟨_, hpa⟩
  obtain ⟨m, hm1, hm2⟩ := List.mem_map.1 hm
  have hany : l.any (·.s.bad) = true := List.any_eq_true.2 ⟨m, hm1, by rw [hm2]; exact hb⟩
  obtain ⟨i, hi⟩ := find_any hany
  obtain ⟨_, _, h3, h4⟩ := first_bad h hi
  exact ⟨hany, by rw [h3]; exact h4 _ _ hpa hb⟩
/-- All threads are over, as 'ended' looks. -/
def endB (p : Lt) (s : St) : Bool := (List.range p.threads.length).all fun k => decide (g s.c (8 + k) = ((p.threads.getD k []).length : Int))
/-- An end that turns come to is one of Ends. -/
theorem shows_end {p : Lt} {l : List Met} (hp : check p = true) (hg : goes p = some l) (h : Reach p l) {s : St} {n : Nat} (hpa : Path p n s) (hb : s.bad = false) (he : endB p s = true) : row p s ∈ (endsF p).1 := by
  have ho : over p s = true := by
    unfold over
    rw [hb]
    simp only [Bool.not_false, Bool.and_true]
    rw [List.all_eq_true]
    intro k hk
    unfold endB at he
    rw [List.all_eq_true] at he
    have := he k hk
    simp only [decide_eq_true_eq] at this ⊢
    omega
  have hm := (h.mem_iff s).2 ⟨n, hpa⟩
  obtain ⟨m, hm1, hm2⟩ := List.mem_map.1 hm
  unfold endsF
  rw [if_pos hp, hg]
  show row p s ∈ sortL _
  rw [(sortL_perm _).mem_iff]
  unfold endRows
  rw [List.take_length]
  exact List.mem_map.2 ⟨m, List.mem_filter.2 ⟨hm1, by rw [hm2]; exact ho⟩, by rw [hm2]⟩
end Go.Proofs.Ytmpgjnindbklaaa.Ex
