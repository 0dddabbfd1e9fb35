import Derived.Test.YtmpgjnindbklaaaERSpec
import Derived.Test.YtmpgjnindbklaaaERFirst
import Derived.Test.YtmpgjnindbklaaaEStep2
import Derived.Deep.CutBlock
import Derived.BigRegion
namespace Go.Proofs.Ytmpgjnindbklaaa
open Go.RowKit BA Ex

/-- A row of numbers that a call has made, whole in its block. -/
structure RowI (w : World) (O cap : Nat) (ys : List Int) : Prop where
  le : ys.length ≤ cap
  cm : cap ≤ maxLen
  blk : ∃ te zs, w.heap[O]? = some (.cells (ints ys ++ zs).toArray te (0, 0)) ∧ (ints ys ++ zs).length = cap

theorem RowI.of {w : World} {base : Nat} {v : Value} {n : Nat} {ys : List Int} (h : OwnS w base 1 v n (ints ys)) (hn : 0 < ys.length) : ∃ O cap, v = .slice (some ⟨O, 0, none⟩) ys.length cap ∧ base ≤ O ∧ RowI w O cap ys := by
  obtain ⟨te, h1, h2⟩ := h
  have hl : ys.length = n := by simpa [ints] using h1
  rcases h2 with ⟨_, hn0⟩ | ⟨O, cap, cur, hv, hb, hg, h3, h4, h5, h6⟩
  · omega
  · refine ⟨O, cap, by rw [hl]; exact hv, hb, by omega, h4, te, cur.toList.drop n, ?_, ?_⟩
    · rw [hg]
      congr 2
      apply Array.toList_inj.1
      simp only []
      rw [← h6, Nat.mul_one]
      exact (List.take_append_drop n cur.toList).symm
    · rw [List.length_append, List.length_drop, h1]
      simp only [Array.length_toList, Nat.mul_one] at *
      omega
theorem RowI.at' {w : World} {O cap : Nat} {ys : List Int} (h : RowI w O cap ys) {i : Nat} (hi : i < ys.length) : w.cell? ⟨O, i, none⟩ = some (.int .i64 (g ys i)) := by
  obtain ⟨te, zs, hb, _⟩ := h.blk
  simp only [World.cell?, hb]
  simp [ints, g, hi, List.getElem?_append]
theorem RowI.free {w : World} {O cap : Nat} {ys : List Int} (h : RowI w O cap ys) (i : Nat) : w.frozen? ⟨O, i, none⟩ = false := by
  obtain ⟨te, zs, hb, _⟩ := h.blk
  simp [World.frozen?, hb]
theorem RowI.lt {w : World} {O cap : Nat} {ys : List Int} (h : RowI w O cap ys) : O < w.heap.size := by
  obtain ⟨te, zs, hb, _⟩ := h.blk
  rw [Array.getElem?_eq_some_iff] at hb; exact hb.1
theorem RowI.set {w : World} {O cap : Nat} {ys : List Int} (h : RowI w O cap ys) {i : Nat} (hi : i < ys.length) (v : Int) : RowI (w.setCell ⟨O, i, none⟩ (.int .i64 v)) O cap (ys.set i v) := by
  obtain ⟨te, zs, hb, hc⟩ := h.blk
  refine ⟨by simpa using h.le, h.cm, te, zs, ?_, by simpa [ints] using hc⟩
  rw [cells_set hb]
  congr 2
  apply Array.toList_inj.1
  simp only [Array.toList_setIfInBounds]
  rw [List.set_append_left _ _ (by simp [ints, hi])]
  simp [ints, List.map_set]
theorem RowI.kept {w w' : World} {O cap : Nat} {ys : List Int} {row : Option Nat} (h : RowI w O cap ys) (hg : w.grownBy w' row) (hr : row ≠ some O) : RowI w' O cap ys := by
  have hlt := h.lt
  obtain ⟨te, zs, hb, hc⟩ := h.blk
  exact ⟨h.le, h.cm, te, zs, (hg.block O hlt (fun e => hr e.symm)).trans hb, hc⟩
theorem RowI.ownS {w : World} {O cap base : Nat} {ys : List Int} (h : RowI w O cap ys) (hb : base ≤ O) : OwnS w base 1 (.slice (some ⟨O, 0, none⟩) ys.length cap) ys.length (ints ys) := by
  obtain ⟨te, zs, hg, hc⟩ := h.blk
  exact ⟨te, by simp [ints], .inr ⟨O, cap, _, rfl, hb, hg, h.le, h.cm, by simpa using hc, by simp [ints]⟩⟩

/-- What is at hand within the document's step, when the line is read. -/
structure RRef (w wr : World) (N M O cap : Nat) (sv : Value) (xs ys : List Int) (x : Ln) : Prop where
  below : Below N w wr
  src : Reads wr sv (ints xs)
  out : RowI wr O cap ys
  line : wr.heap[M]? = some (.cells #[.int .i64 x.op, .int .i64 x.a, .int .i64 x.b, .int .i64 x.c] 55 (0, 0))
  sb : ∀ k, sv.ownBlock = some k → k < N
  oN : N < O
  mO : O < M

theorem RRef.kept {w wr w' : World} {N M O cap : Nat} {sv : Value} {xs ys ys' : List Int} {x : Ln} (h : RRef w wr N M O cap sv xs ys x) (hg : wr.grownBy w' (some O)) (ho : RowI w' O cap ys') : RRef w w' N M O cap sv xs ys' x := by
  have h1 := h.oN
  have h2 := h.mO
  have h3 := h.out.lt
  have hM : M < wr.heap.size := by have := h.line; rw [Array.getElem?_eq_some_iff] at this; exact this.1
  exact ⟨h.below.grown hg (by omega) (fun k hk => by cases hk; omega), h.src.same fun k hk _ => hg.block k (by have := h.sb k hk; omega) (by have := h.sb k hk; intro e; cases e; omega), ho, (hg.block M hM (by intro e; cases e; omega)).trans h.line, h.sb, h.oN, h.mO⟩
theorem RRef.set {w wr : World} {N M O cap : Nat} {sv : Value} {xs ys : List Int} {x : Ln} (h : RRef w wr N M O cap sv xs ys x) {i : Nat} (hi : i < ys.length) (v : Int) : RRef w (wr.setCell ⟨O, i, none⟩ (.int .i64 v)) N M O cap sv xs (ys.set i v) x :=
  h.kept (grown_set _ _ _ _) (h.out.set hi v)
theorem RRef.drew {w wr : World} {N M O cap : Nat} {sv : Value} {xs ys : List Int} {x : Ln} (h : RRef w wr N M O cap sv xs ys x) : RRef w wr.drew N M O cap sv xs ys x :=
  h.kept (grown_drew (World.grownBy.refl _ _)) (h.out.kept (grown_drew (World.grownBy.refl _ none)) (by simp))
theorem RRef.l0 {w wr : World} {N M O cap : Nat} {sv : Value} {xs ys : List Int} {x : Ln} (h : RRef w wr N M O cap sv xs ys x) : wr.cell? ⟨M, 0, none⟩ = some (.int .i64 x.op) := by simp [World.cell?, h.line]
theorem RRef.l1 {w wr : World} {N M O cap : Nat} {sv : Value} {xs ys : List Int} {x : Ln} (h : RRef w wr N M O cap sv xs ys x) : wr.cell? ⟨M, 1, none⟩ = some (.int .i64 x.a) := by simp [World.cell?, h.line]
theorem RRef.l2 {w wr : World} {N M O cap : Nat} {sv : Value} {xs ys : List Int} {x : Ln} (h : RRef w wr N M O cap sv xs ys x) : wr.cell? ⟨M, 2, none⟩ = some (.int .i64 x.b) := by simp [World.cell?, h.line]
theorem RRef.l3 {w wr : World} {N M O cap : Nat} {sv : Value} {xs ys : List Int} {x : Ln} (h : RRef w wr N M O cap sv xs ys x) : wr.cell? ⟨M, 3, none⟩ = some (.int .i64 x.c) := by simp [World.cell?, h.line]

theorem RRef.base {w w3 : World} {N O cap : Nat} {sw st sv : Value} {p : Lt} {xs : List Int} (hR : RChk w w3 N sw st p) (hs : Reads w3 sv (ints xs)) (ho : RowI w3 O cap xs) (hN : N < O) (hb : ∀ k, sv.ownBlock = some k → k < N) (x : Ln) :
    RRef w (w3.alloc (.cells #[.int .i64 x.op, .int .i64 x.a, .int .i64 x.b, .int .i64 x.c] 55 (0, 0))) N w3.heap.size O cap sv xs xs x := by
  have hb' : Below w3.heap.size w3 (w3.alloc (.cells #[.int .i64 x.op, .int .i64 x.a, .int .i64 x.b, .int .i64 x.c] 55 (0, 0))) := (Below.refl _ _).alloc (Nat.le_refl _) _
  exact ⟨(hR.more hb').below, hs.same fun k _ hk => hb'.block k hk, ho.kept (grown_below hb') (by simp), heap_alloc_new _ _, hb, hN, ho.lt⟩

end Go.Proofs.Ytmpgjnindbklaaa
