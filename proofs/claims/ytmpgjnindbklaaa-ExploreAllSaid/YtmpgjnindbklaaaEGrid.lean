import Derived.Test.YtmpgjnindbklaaaERow2
import Derived.Test.YtmpgjnindbklaaaEWf
import Derived.Test.YtmpgjnindbklaaaBase
/-! Rows of numbers that a call has made. -/
namespace Go.Proofs.Ytmpgjnindbklaaa
open Go.RowKit BA Ex

/-- A slice of rows, all made by the call. -/
structure OwnG (w : World) (base : Nat) (v : Value) (vs : List Value) (ls : List (List Int)) : Prop where
  own : OwnS w base 1 v ls.length vs
  rows : ∀ (k : Nat) (u : Value) (l : List Int), vs[k]? = some u → ls[k]? = some l → OwnS w base 1 u l.length (ints l) ∧ (u.ownBlock = none ∨ u.ownBlock ≠ v.ownBlock)

theorem OwnG.nil (w : World) (base : Nat) : OwnG w base (.slice none 0 0) [] [] := ⟨OwnS.nil _ _ _, fun k u l h => by simp at h⟩
theorem ownS_fresh {w : World} {base size : Nat} {v : Value} {n : Nat} {xs : List Value} (h : OwnS w base size v n xs) {row : Option Nat} (hr : ∀ k, row = some k → w.heap.size ≤ k) : v.ownBlock = none ∨ v.ownBlock ≠ row := by
  cases hv : v.ownBlock with
  | none => exact .inl rfl
  | some k =>
    refine .inr fun e => ?_
    have h1 := (h.blk k hv).2
    have h2 := hr k e.symm
    omega
theorem OwnG.kept {w w' : World} {base : Nat} {v : Value} {vs : List Value} {ls : List (List Int)} {row : Option Nat} (h : OwnG w base v vs ls) (hg : w.grownBy w' row) (hr : ∀ k, row = some k → w.heap.size ≤ k) : OwnG w' base v vs ls :=
  ⟨h.own.kept hg (ownS_fresh h.own hr), fun k u l hu hl => ⟨(h.rows k u l hu hl).1.kept hg (ownS_fresh (h.rows k u l hu hl).1 hr), (h.rows k u l hu hl).2⟩⟩
theorem grown_below {w w' : World} (h : Below w.heap.size w w') : w.grownBy w' none := ⟨h.os, h.tape, h.output, h.size, fun k hk _ => h.block k hk⟩
theorem OwnG.below {w w' : World} {base : Nat} {v : Value} {vs : List Value} {ls : List (List Int)} (h : OwnG w base v vs ls) (hb : Below w.heap.size w w') : OwnG w' base v vs ls := h.kept (grown_below hb) (fun k hk => by cases hk)
theorem OwnS.below {w w' : World} {base size : Nat} {v : Value} {n : Nat} {xs : List Value} (h : OwnS w base size v n xs) (hb : Below w.heap.size w w') : OwnS w' base size v n xs := h.kept (grown_below hb) (ownS_fresh h (fun k hk => by cases hk))
theorem ownS_base {w : World} {base base' size : Nat} {v : Value} {n : Nat} {xs : List Value} (h : OwnS w base size v n xs) (hb : base' ≤ base) : OwnS w base' size v n xs := by
  obtain ⟨te, h1, h2⟩ := h
  refine ⟨te, h1, ?_⟩
  rcases h2 with hh | ⟨g', cap, cur, q1, q2, q3⟩
  · exact .inl hh
  · exact .inr ⟨g', cap, cur, q1, by omega, q3⟩
theorem OwnG.base {w : World} {base base' : Nat} {v : Value} {vs : List Value} {ls : List (List Int)} (h : OwnG w base v vs ls) (hb : base' ≤ base) : OwnG w base' v vs ls :=
  ⟨ownS_base h.own hb, fun k u l hu hl => ⟨ownS_base (h.rows k u l hu hl).1 hb, (h.rows k u l hu hl).2⟩⟩
/-- What one append of a row makes. -/
theorem OwnG.push {w w' : World} {base : Nat} {v v' u : Value} {vs : List Value} {ls : List (List Int)} {l : List Int} (h : OwnG w base v vs ls) (hu : OwnS w base 1 u l.length (ints l)) (hne : u.ownBlock = none ∨ u.ownBlock ≠ v.ownBlock)
    (hv : OwnS w' base 1 v' (ls.length + 1) (vs ++ [u])) (hg : w.grownBy w' v.ownBlock) (hob : v'.ownBlock = v.ownBlock ∨ v'.ownBlock = none ∨ ∃ k, v'.ownBlock = some k ∧ w.heap.size ≤ k) : OwnG w' base v' (vs ++ [u]) (ls ++ [l]) := by
  have hlen : vs.length = ls.length := by have := h.own.len; omega
  have key : ∀ x n xs, OwnS w base 1 x n xs → (x.ownBlock = none ∨ x.ownBlock ≠ v.ownBlock) → OwnS w' base 1 x n xs ∧ (x.ownBlock = none ∨ x.ownBlock ≠ v'.ownBlock) := by
    intro x n xs hx hxn
    refine ⟨hx.kept hg hxn, ?_⟩
    rcases hxn with hxn | hxn
    · exact .inl hxn
    · cases hxb : x.ownBlock with
      | none => exact .inl rfl
      | some k =>
        refine .inr fun e => ?_
        rcases hob with ho | ho | ⟨k', hk', hle⟩
        · exact hxn (by rw [hxb, e, ho])
        · rw [ho] at e; cases e
        · rw [hk'] at e
          cases e
          have := (hx.blk k hxb).2
          omega
  refine ⟨by rw [List.length_append]; exact hv, fun k x l' hx hl => ?_⟩
  by_cases hk : k < vs.length
  · rw [List.getElem?_append_left hk] at hx
    rw [List.getElem?_append_left (by omega)] at hl
    obtain ⟨r1, r2⟩ := h.rows k x l' hx hl
    exact key x _ _ r1 r2
  · rw [List.getElem?_append_right (by omega)] at hx hl
    rw [hlen] at hx
    cases hkk : k - ls.length with
    | zero =>
      rw [hkk] at hx hl
      simp only [List.getElem?_cons_zero, Option.some.injEq] at hx hl
      subst hx; subst hl
      exact key u _ _ hu hne
    | succ m => rw [hkk] at hx; simp at hx
theorem OwnS.one {w : World} {base size : Nat} {v : Value} {n : Nat} {xs : List Value} (h : OwnS w base size v n xs) : v.oneCell' = true := by
  obtain ⟨te, _, h2⟩ := h
  rcases h2 with ⟨rfl, _⟩ | ⟨g', cap, cur, rfl, _⟩ <;> rfl

/-- Rows of numbers, as they read. -/
def IGrid (w : World) (v : Value) (ls : List (List Int)) : Prop :=
  ∃ vs : List Value, vs.length = ls.length ∧ Reads w v vs ∧ ∀ (k : Nat) (u : Value) (l : List Int), vs[k]? = some u → ls[k]? = some l → Reads w u (ints l)
theorem OwnG.igrid {w : World} {base : Nat} {v : Value} {vs : List Value} {ls : List (List Int)} (h : OwnG w base v vs ls) : IGrid w v ls :=
  ⟨vs, by have := h.own.len; omega, h.own.reads, fun k u l hu hl => (h.rows k u l hu hl).1.reads⟩

/-! The rows of 'Follow'. -/
def Ex.fullTo (p : Lt) (c : List Int) (k : Nat) : List Int := c.take p.words.length ++ (List.range k).flatMap fun k => g c (8 + k) :: (c.drop (12 + 4 * k)).take 4
theorem fullTo_succ (p : Lt) (c : List Int) (k : Nat) : fullTo p c (k + 1) = fullTo p c k ++ (g c (8 + k) :: (c.drop (12 + 4 * k)).take 4) := by
  simp [fullTo, List.range_succ]
theorem full_to (p : Lt) (s : St) : full p s = fullTo p s.c p.threads.length := rfl
theorem fullTo_len {p : Lt} {c : List Int} (hc : c.length = 28) (h8 : p.words.length ≤ 8) {k : Nat} (hk : k ≤ 4) : (fullTo p c k).length = p.words.length + 5 * k := by
  induction k with
  | zero => simp [fullTo]; omega
  | succ k ih =>
    rw [fullTo_succ, List.length_append, ih (by omega)]
    simp only [List.length_cons, List.length_take, List.length_drop]
    omega
/-- A step of a thread that a number names; none: it can't be. -/
def Ex.stepI (p : Lt) (s : St) (k : Int) : Option St := if 0 ≤ k then Ex.step p s k.toNat else none
/-- A turn of 'Follow'. -/
def Ex.turn (p : Lt) (x : St × List (List Int)) (k : Int) : St × List (List Int) :=
  match stepI p x.1 k with
  | none => x
  | some s => (s, x.2 ++ [full p s])
def Ex.turns (p : Lt) (l : List Int) : St × List (List Int) := l.foldl (turn p) (first p, [])
theorem turns_succ (p : Lt) (l : List Int) (i : Nat) (hi : i < l.length) : turns p (l.take (i + 1)) = turn p (turns p (l.take i)) (g l i) := by
  unfold turns
  rw [List.take_add_one, List.foldl_append, List.getElem?_eq_getElem hi]
  simp only [Option.toList_some, List.foldl_cons, List.foldl_nil, g, List.getD_eq_getElem?_getD, List.getElem?_eq_getElem hi, Option.getD_some]
theorem stepI_wf {p : Lt} {s : St} {k : Int} (hp : check p = true) (hw : Wf p s) : Wf p ((stepI p s k).getD s) := by
  cases h : stepI p s k with
  | none => exact hw
  | some s' =>
    unfold stepI at h
    split at h
    · exact step_wf hp hw h
    · cases h
theorem turn_st (p : Lt) (x : St × List (List Int)) (k : Int) : (turn p x k).1 = (stepI p x.1 k).getD x.1 := by
  unfold turn; cases stepI p x.1 k <;> rfl
theorem turns_wf {p : Lt} (hp : check p = true) (l : List Int) : Wf p (turns p l).1 := by
  suffices h : ∀ (l : List Int) (x : St × List (List Int)), Wf p x.1 → Wf p (l.foldl (turn p) x).1 from h l _ (first_wf hp)
  intro l
  induction l with
  | nil => exact fun x hx => hx
  | cons k l ih => exact fun x hx => ih _ (by rw [turn_st]; exact stepI_wf hp hx)
theorem turns_short (p : Lt) (l : List Int) : (turns p l).2.length ≤ l.length := by
  suffices h : ∀ (l : List Int) (x : St × List (List Int)), (l.foldl (turn p) x).2.length ≤ x.2.length + l.length by
    have := h l (first p, []); simpa [turns] using this
  intro l
  induction l with
  | nil => intro x; simp
  | cons k l ih =>
    intro x
    have h1 := ih (turn p x k)
    have h2 : (turn p x k).2.length ≤ x.2.length + 1 := by unfold turn; cases stepI p x.1 k <;> simp
    simp only [List.foldl_cons, List.length_cons]
    omega

/-- What 'Follow' tells. -/
def Ex.followF (p : Lt) (l : List Int) : List (List Int) × Bool × Int :=
  if check p = true ∧ l.length ≤ 20000 then ((turns p l).2, (turns p l).1.bad, 0) else ([], false, 270)
end Go.Proofs.Ytmpgjnindbklaaa
