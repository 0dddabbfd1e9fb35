/-
  Whose turn it is (chapter 2), as plain functions on lists. No program in sight.
-/
import Derived.Test.YtkeipanehjjmdaaBase
namespace Go.Proofs.Ytkeipanehjjmdaa.TU
open Go.RowKit

theorem ret1 {k : IntKind} {a b : Int} (h : a = b) : Ending.returned (.int k a) = .returned (.int k b) := by rw [h]
/-- Who is ready among the first k. -/
def rdyTo (l : List Bool) (k : Nat) : List Nat := (List.range k).filter fun i => l.getD i false
def rdy (l : List Bool) : List Nat := rdyTo l l.length
theorem rdyTo_zero (l : List Bool) : rdyTo l 0 = [] := rfl
theorem rdyTo_hit (l : List Bool) (k : Nat) (h : l.getD k false = true) : rdyTo l (k + 1) = rdyTo l k ++ [k] := by
  unfold rdyTo; rw [List.range_succ, List.filter_append]; simp only [List.filter_cons, List.filter_nil, h, if_true]
theorem rdyTo_miss (l : List Bool) (k : Nat) (h : l.getD k false = false) : rdyTo l (k + 1) = rdyTo l k := by
  unfold rdyTo; rw [List.range_succ, List.filter_append]; simp only [List.filter_cons, List.filter_nil, h]; simp
theorem rdyTo_le (l : List Bool) (k : Nat) : (rdyTo l k).length ≤ k := by
  have := List.length_filter_le (fun i => l.getD i false) (List.range k)
  unfold rdyTo; simpa using this
theorem rdyTo_lt (l : List Bool) (k i : Nat) (h : i ∈ rdyTo l k) : i < k := by
  unfold rdyTo at h; rw [List.mem_filter] at h; simpa using h.1
theorem rdy_is (l : List Bool) (i : Nat) (h : i ∈ rdy l) : i < l.length ∧ l.getD i false = true := by
  refine ⟨rdyTo_lt _ _ _ h, ?_⟩
  unfold rdy rdyTo at h; rw [List.mem_filter] at h; exact h.2

/-- The place among n of a turn t. -/
def at_ (t : Int) (n : Nat) : Nat := ((t.tmod n + n) % n).toNat
theorem at_bd (t : Int) (n : Nat) (h : 0 < n) : -(n : Int) < t.tmod n ∧ t.tmod n < n ∧ 0 ≤ (t.tmod n + n) % n ∧ (t.tmod n + n) % n < n :=
  ⟨Int.lt_tmod_of_pos t (by omega), Int.tmod_lt_of_pos t (by omega), Int.emod_nonneg _ (by omega), Int.emod_lt_of_pos _ (by omega)⟩
theorem at_lt (t : Int) (n : Nat) (h : 0 < n) : at_ t n < n := by
  have := at_bd t n h
  unfold at_
  omega
/-- The place in l of the first one above 'last'; -1: none. -/
def fIdx (last : Int) (l : List Nat) : Nat := l.findIdx fun (k : Nat) => decide (last < (k : Int))
def ix (last : Int) (l : List Nat) : Int := if fIdx last l < l.length then (fIdx last l : Int) else -1
/-- Who comes behind 'last' in l, else the first. -/
def nxt (last : Int) (l : List Nat) : Nat := l.getD (if fIdx last l < l.length then fIdx last l else 0) 0
theorem ix_hit (last : Int) (l : List Nat) (k : Nat) (hk : k < l.length) (h1 : last < (l.getD k 0 : Nat)) (h2 : ∀ j, j < k → ((l.getD j 0 : Nat) : Int) ≤ last) : ix last l = k ∧ nxt last l = l.getD k 0 := by
  have e : fIdx last l = k := by
    unfold fIdx
    rw [List.findIdx_eq hk]
    refine ⟨by simpa [hk] using h1, fun j hj => ?_⟩
    have := h2 j hj
    simpa [show j < l.length by omega] using this
  unfold ix nxt
  rw [e, if_pos hk, if_pos hk]
  exact ⟨rfl, rfl⟩
theorem ix_none (last : Int) (l : List Nat) (h2 : ∀ j, j < l.length → ((l.getD j 0 : Nat) : Int) ≤ last) : ix last l = -1 ∧ nxt last l = l.getD 0 0 := by
  have e : fIdx last l = l.length := by
    unfold fIdx
    rw [List.findIdx_eq_length]
    intro x hx
    obtain ⟨j, hj, rfl⟩ := List.getElem_of_mem hx
    have := h2 j hj
    simpa [hj] using this
  unfold ix nxt
  rw [e, if_neg (by omega), if_neg (by omega)]
  exact ⟨rfl, rfl⟩
theorem ix_any (last : Int) (l : List Nat) (hl : 0 < l.length) : ∃ x : Nat, x < l.length ∧ (if ix last l < 0 then 0 else ix last l) = (x : Int) ∧ nxt last l = l.getD x 0 := by
  unfold ix nxt
  by_cases h : fIdx last l < l.length
  · rw [if_pos h, if_pos h]; exact ⟨_, h, if_neg (by omega), rfl⟩
  · rw [if_neg h, if_neg h]; exact ⟨0, hl, if_pos (by omega), rfl⟩
/-- Pick: who is picked; what is left; who stepped last. -/
def pickK (left : List Int) (last : Int) (l : List Nat) : Int :=
  if l = [] then -1 else match left with
    | t :: _ => (l.getD (at_ t l.length) 0 : Int)
    | [] => (nxt last l : Int)
def pickLeft (left : List Int) (l : List Nat) : List Int := if l = [] then left else left.tail
def pickLast (left : List Int) (last : Int) (l : List Nat) : Int := if l = [] then last else pickK left last l
end Go.Proofs.Ytkeipanehjjmdaa.TU
