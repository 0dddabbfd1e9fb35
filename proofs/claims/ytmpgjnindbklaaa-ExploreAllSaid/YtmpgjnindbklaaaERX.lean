import Derived.Test.YtmpgjnindbklaaaEAll
import Derived.Test.YtmpgjnindbklaaaEExplore
namespace Go.Proofs.Ytmpgjnindbklaaa
open Go.RowKit BA Ex

/-- All states, as they can be read: the book in block B, where each came from, and by whom. -/
structure RBk (wr : World) (B : Nat) (fv yv : Value) (p : Lt) (l : List Ex.Met) (gl cl : Nat) : Prop where
  c0 : wr.cell? ⟨B, 0, none⟩ = some (.slice (some ⟨gl, 0, none⟩) l.length cl)
  row : ∀ i, i < l.length → ∃ sv, wr.cell? ⟨gl, i, none⟩ = some sv ∧ Reads wr sv (ints (flat p (at' l i).s))
  fr : Reads wr fv (ints (l.map (·.fr)))
  by' : Reads wr yv (ints (l.map (·.by')))
theorem RAll.rbk {w wr : World} {N B : Nat} {sw st lv bv fv yv : Value} {vs us : List Value} {p : Lt} {l : List Ex.Met} {bs : List (List Int)} (h : RAll w wr N B sw st lv bv fv yv vs us p l bs) : ∃ gl cl, RBk wr B fv yv p l gl cl := by
  obtain ⟨gl, cl, sv, rfl, _, _, x0⟩ := h.row h.pos
  refine ⟨gl, cl, x0, fun i hi => ?_, OwnS.reads h.fr, OwnS.reads h.by'⟩
  obtain ⟨gl', cl', sv', e, x1, x2, _⟩ := h.row hi
  cases e
  exact ⟨sv', x1, x2⟩
theorem RBk.more {wr w' : World} {B : Nat} {fv yv : Value} {p : Lt} {l : List Ex.Met} {gl cl : Nat} (h : RBk wr B fv yv p l gl cl) (hb : Below wr.heap.size wr w') : RBk w' B fv yv p l gl cl :=
  ⟨cell_keep hb h.c0, fun i hi => let ⟨sv, h1, h2⟩ := h.row i hi; ⟨sv, cell_keep hb h1, reads_below h2 hb⟩, reads_below h.fr hb, reads_below h.by' hb⟩
/-- Over, as the document says it. -/
theorem over_end {p : Lt} {s : St} (hw : Wf p s) : (endB p s && !s.bad) = over p s := by
  unfold endB over
  congr 1
  rw [Bool.eq_iff_iff, List.all_eq_true, List.all_eq_true]
  constructor
  · intro h k hk
    have := h k hk
    simp only [decide_eq_true_eq] at this ⊢
    omega
  · intro h k hk
    have h1 := h k hk
    have h2 := (hw.at' k (List.mem_range.1 hk)).2
    simp only [decide_eq_true_eq] at h1 ⊢
    omega

/-- What the document's Explore keeps in block F, the first behind the states. -/
structure RX (w3 wr : World) (F : Nat) (tv : Value) (n en : Nat) (bd : Bool) (xs : List Int) : Prop where
  below : Below F w3 wr
  f : wr.heap[F]? = some (.cells #[.int .i64 n, .int .i64 en, .bool bd, tv] 30 (0, 0))
  own : OwnS wr (F + 1) 1 tv xs.length (ints xs)
namespace RX
variable {w3 wr : World} {F : Nat} {tv : Value} {n en : Nat} {bd : Bool} {xs : List Int}
theorem start (w3 : World) (n : Nat) : RX w3 (w3.alloc (.cells #[.int .i64 n, .int .i64 0, .bool false, .slice none 0 0] 30 (0, 0))) w3.heap.size (.slice none 0 0) n 0 false [] :=
  ⟨(Below.refl _ _).alloc (Nat.le_refl _) _, heap_alloc_new _ _, OwnS.nil _ _ _⟩
theorem ltw (h : RX w3 wr F tv n en bd xs) : F < wr.heap.size := by have := h.f; rw [Array.getElem?_eq_some_iff] at this; exact this.1
theorem c1 (h : RX w3 wr F tv n en bd xs) : wr.cell? ⟨F, 1, none⟩ = some (.int .i64 en) := by simp [World.cell?, h.f]
theorem c2 (h : RX w3 wr F tv n en bd xs) : wr.cell? ⟨F, 2, none⟩ = some (.bool bd) := by simp [World.cell?, h.f]
theorem c3 (h : RX w3 wr F tv n en bd xs) : wr.cell? ⟨F, 3, none⟩ = some tv := by simp [World.cell?, h.f]
theorem free (h : RX w3 wr F tv n en bd xs) (j : Nat) : wr.frozen? ⟨F, j, none⟩ = false := by simp [World.frozen?, h.f]
theorem more {w' : World} (h : RX w3 wr F tv n en bd xs) (hb : Below wr.heap.size wr w') : RX w3 w' F tv n en bd xs :=
  ⟨h.below.trans (hb.mono (Nat.le_of_lt h.ltw)), (hb.block _ h.ltw).trans h.f, OwnS.below h.own hb⟩
theorem off (h : RX w3 wr F tv n en bd xs) : tv.ownBlock = none ∨ tv.ownBlock ≠ some F := by
  cases hv : tv.ownBlock with
  | none => exact .inl rfl
  | some k => refine .inr fun e => ?_; have := (h.own.blk k hv).1; cases e; omega
theorem put {w' : World} {en' : Nat} {bd' : Bool} (h : RX w3 wr F tv n en bd xs) (hg : wr.grownBy w' (some F)) (hf : w'.heap[F]? = some (.cells #[.int .i64 n, .int .i64 en', .bool bd', tv] 30 (0, 0))) : RX w3 w' F tv n en' bd' xs :=
  ⟨h.below.grown hg (Nat.le_of_lt h.ltw) (fun k hk => by cases hk; exact Nat.le_refl _), hf, h.own.kept hg h.off⟩
theorem put1 (h : RX w3 wr F tv n en bd xs) (e : Nat) : RX w3 (wr.setCell ⟨F, 1, none⟩ (.int .i64 e)) F tv n e bd xs :=
  h.put (grown_set _ _ _ _) (by rw [cells_set h.f]; rfl)
theorem put2 (h : RX w3 wr F tv n en bd xs) (b : Bool) : RX w3 (wr.setCell ⟨F, 2, none⟩ (.bool b)) F tv n en b xs :=
  h.put (grown_set _ _ _ _) (by rw [cells_set h.f]; rfl)
/-- The turns, one ahead of them. -/
theorem grew {w1 w9 : World} {v9 : Value} {ys : List Int} {k : Nat} (h : RX w3 wr F tv n en bd xs) (hb : Below wr.heap.size wr w1) (hg : w1.grownBy w9 (some k)) (hk : wr.heap.size ≤ k) (hv : OwnS w9 (F + 1) 1 v9 ys.length (ints ys)) :
    RX w3 (w9.setCell ⟨F, 3, none⟩ v9) F v9 n en bd ys := by
  have h1 := h.more hb
  have hl := h.ltw
  have hf9 := (hg.block F h1.ltw (by simp; omega)).trans h1.f
  have hs := grown_set w9 F 3 v9
  refine ⟨(h1.below.grown hg (Nat.le_of_lt h1.ltw) (fun j hj => by cases hj; omega)).grown hs (by have := h1.ltw; have := hg.size; omega) (fun j hj => by cases hj; exact Nat.le_refl _), by rw [cells_set hf9]; rfl, hv.kept hs ?_⟩
  cases hb : v9.ownBlock with
  | none => exact .inl rfl
  | some k => refine .inr fun e => ?_; have := (hv.blk k hb).1; cases e; omega
end RX
end Go.Proofs.Ytmpgjnindbklaaa
