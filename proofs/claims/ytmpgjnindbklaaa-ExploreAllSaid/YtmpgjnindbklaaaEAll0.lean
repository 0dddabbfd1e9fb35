import Derived.Test.YtmpgjnindbklaaaEAllP
import Derived.Test.YtmpgjnindbklaaaEMore
namespace Go.Proofs.Ytmpgjnindbklaaa
open Go.RowKit BA Ex

theorem OwnS.blk_kept {w w' : World} {base size n : Nat} {v : Value} {xs : List Value} (h : OwnS w base size v n xs) (hb : ∀ k, v.ownBlock = some k → w'.heap[k]? = w.heap[k]?) : OwnS w' base size v n xs := by
  obtain ⟨te, h0, h1⟩ := h
  refine ⟨te, h0, ?_⟩
  rcases h1 with hh | ⟨g, cap, cur, rfl, hg, hblk, q⟩
  · exact .inl hh
  · exact .inr ⟨g, cap, cur, rfl, hg, (hb g rfl).trans hblk, q⟩
theorem Bk.kept {w w' : World} {base B m : Nat} {lv bv : Value} {vs us : List Value} {ls bs : List (List Int)} {row : Option Nat} (h : Bk w base B lv bv vs us ls bs m) (hg : w.grownBy w' row) (hr : ∀ k, row = some k → ¬ Fp B lv bv us k ∧ ∀ v ∈ vs, v.ownBlock ≠ some k) : Bk w' base B lv bv vs us ls bs m := by
  have hl : ∀ {a : Value} {n : Nat} {xs : List Value}, OwnS w base 1 a n xs → (∀ k, a.ownBlock = some k → some k ≠ row) → OwnS w' base 1 a n xs := fun ha hk => OwnS.blk_kept ha (fun k hk' => hg.block k (ha.blk k hk').2 (hk k hk'))
  refine ⟨{ h.own with
    box := (hg.block B h.own.lt (fun e => (hr B e.symm).1 (.inl rfl))).trans h.own.box
    l := hl h.own.l (fun k hk e => (hr k e.symm).1 (.inr (.inl hk)))
    b := hl h.own.b (fun k hk e => (hr k e.symm).1 (.inr (.inr (.inl hk))))
    lr := fun j v x hv hx => hl (h.own.lr j v x hv hx) (fun k hk e => (hr k e.symm).2 v (List.mem_of_getElem? hv) hk)
    br := fun j u x hu hx => hl (h.own.br j u x hu hx) (fun k hk e => (hr k e.symm).1 (.inr (.inr (.inr ⟨u, List.mem_of_getElem? hu, hk⟩)))) }, h.cont, h.len, h.short⟩
theorem Bk.fp_base {w : World} {base B m : Nat} {lv bv : Value} {vs us : List Value} {ls bs : List (List Int)} (h : Bk w base B lv bv vs us ls bs m) : ∀ k, Fp B lv bv us k → base ≤ k := by
  intro k hk
  rcases hk with rfl | hk | hk | ⟨u, hu, hk⟩
  · exact h.own.hB
  · exact (h.own.l.blk k hk).1
  · exact (h.own.b.blk k hk).1
  · obtain ⟨i, hi, rfl⟩ := List.getElem_of_mem hu
    have hb : i < bs.length := by have := h.own.ulen; have := h.own.bl; omega
    exact ((h.own.br i us[i] bs[i] (List.getElem?_eq_getElem hi) (List.getElem?_eq_getElem hb)).blk k hk).1
theorem Bk.fp_lt {w : World} {base B m : Nat} {lv bv : Value} {vs us : List Value} {ls bs : List (List Int)} (h : Bk w base B lv bv vs us ls bs m) : ∀ k, Fp B lv bv us k → k < w.heap.size := by
  intro k hk
  rcases hk with rfl | hk | hk | ⟨u, hu, hk⟩
  · exact h.own.lt
  · exact h.own.lblk k hk
  · exact h.own.bblk k hk
  · exact h.own.ublk u hu k hk
theorem Bk.of_below {w w' : World} {base B m : Nat} {lv bv : Value} {vs us : List Value} {ls bs : List (List Int)} (h : Bk w base B lv bv vs us ls bs m) (hb : Below w.heap.size w w') : Bk w' base B lv bv vs us ls bs m := ⟨h.own.more hb, h.cont, h.len, h.short⟩
theorem RChk.fr {w wr w' : World} {N : Nat} {sw st : Value} {p : Lt} {F F' : Nat → Prop} (h : RChk w wr N sw st p) (h0 : PHas w sw st p) (hN : w.heap.size = N) (hf : Fr wr w' F F') (hb : ∀ k, F k → N + 1 ≤ k) : RChk w w' N sw st p := by
  have hlt : N < wr.heap.size := by have := h.box; rw [Array.getElem?_eq_some_iff] at this; exact this.1
  have hk : ∀ k, k ≤ N → w'.heap[k]? = wr.heap[k]? := fun k hk => hf.block k (by omega) (fun hF => by have := hb k hF; omega)
  have hbl : Below N w w' := ⟨hf.os.trans h.below.os, hf.tape.trans h.below.tape, hf.output.trans h.below.output, Nat.le_trans h.below.size hf.size, fun k hk' => (hk k (by omega)).trans (h.below.block k hk')⟩
  exact ⟨hbl, (hk N (Nat.le_refl _)).trans h.box, h0.below (by rw [hN]; exact hbl)⟩

/-- Whose block is not the book's, nor a state's. -/
def Apt (v : Value) (B : Nat) (lv bv : Value) (us vs : List Value) : Prop := ∀ k, v.ownBlock = some k → ¬ Fp B lv bv us k ∧ ∀ x ∈ vs, x.ownBlock ≠ some k
/-- What skeinref27.all's rounds keep. -/
structure RAll (w wr : World) (N B : Nat) (sw st lv bv fv yv : Value) (vs us : List Value) (p : Lt) (l : List Ex.Met) (bs : List (List Int)) : Prop where
  chk : RChk w wr N sw st p
  book : Bk wr (N + 1) B lv bv vs us (l.map fun m => flat p m.s) bs (p.words.length + 5 * p.threads.length + 1)
  fr : OwnS wr (N + 1) 1 fv l.length (ints (l.map (·.fr)))
  by' : OwnS wr (N + 1) 1 yv l.length (ints (l.map (·.by')))
  fy : Off fv yv
  fF : Apt fv B lv bv us vs
  yF : Apt yv B lv bv us vs
  come : Come p l
  pos : 0 < l.length
namespace RAll
variable {w wr : World} {N B : Nat} {sw st lv bv fv yv : Value} {vs us : List Value} {p : Lt} {l : List Ex.Met} {bs : List (List Int)}
theorem more {w' : World} (h : RAll w wr N B sw st lv bv fv yv vs us p l bs) (hb : Below wr.heap.size wr w') : RAll w w' N B sw st lv bv fv yv vs us p l bs :=
  ⟨h.chk.more hb, h.book.of_below hb, OwnS.below h.fr hb, OwnS.below h.by' hb, h.fy, h.fF, h.yF, h.come, h.pos⟩
/-- A state more. -/
theorem add {w1 w2 w3 : World} {lv' fv' yv' v : Value} {us' : List Value} {bs' : List (List Int)} {s : St} {i k n : Nat} {o2 o3 : Obj} (h : RAll w wr N B sw st lv bv fv yv vs us p l bs) (h0 : PHas w sw st p) (hN : w.heap.size = N)
    (hb : Bk w1 (N + 1) B lv' bv (vs ++ [v]) us' ((l.map fun m => flat p m.s) ++ [flat p s]) bs' (p.words.length + 5 * p.threads.length + 1)) (hf : Fr wr w1 (Fp B lv bv us) (Fp B lv' bv us')) (hv : ∀ j, v.ownBlock = some j → wr.heap.size ≤ j) (hs : Path p n s)
    (hg2 : (w1.alloc o2).grownBy w2 fv.ownBlock) (hf2 : OwnS w2 (N + 1) 1 fv' (l.length + 1) (ints (l.map (·.fr)) ++ [.int .i64 (i : Int)])) (hn2 : New (w1.alloc o2).heap.size fv fv')
    (hg3 : (w2.alloc o3).grownBy w3 yv.ownBlock) (hf3 : OwnS w3 (N + 1) 1 yv' (l.length + 1) (ints (l.map (·.by')) ++ [.int .i64 (k : Int)])) (hn3 : New (w2.alloc o3).heap.size yv yv') :
    RAll w w3 N B sw st lv' bv fv' yv' (vs ++ [v]) us' p (l ++ [⟨s, i, k⟩]) bs' := by
  have hfb := h.book.fp_base
  have hfw : ∀ j, fv.ownBlock = some j → j < wr.heap.size := fun j hj => (h.fr.blk j hj).2
  have hyw : ∀ j, yv.ownBlock = some j → j < wr.heap.size := fun j hj => (h.by'.blk j hj).2
  -- who is apart from the grown book
  have apt : ∀ {z : Value}, Apt z B lv bv us vs → (∀ j, z.ownBlock = some j → j < wr.heap.size) → Apt z B lv' bv us' (vs ++ [v]) := fun hz hzw j hj => by
    obtain ⟨h1, h2⟩ := hz j hj
    have hjw := hzw j hj
    refine ⟨fun hF => ?_, fun x hx => ?_⟩
    · rcases hf.fp j hF with h3 | h3
      · exact h1 h3
      · omega
    · rcases List.mem_append.1 hx with h3 | h3
      · exact h2 x h3
      · simp only [List.mem_singleton] at h3
        subst h3
        intro e
        have := hv j e
        omega
  have aF := apt h.fF hfw
  have aY := apt h.yF hyw
  have al : ∀ (w : World) (o : Obj), Below w.heap.size w (w.alloc o) := fun w o => (Below.refl _ _).alloc (Nat.le_refl _) _
  have c1 := h.chk.fr h0 hN hf hfb
  have c2 := ((c1.more (al w1 o2)).grown h0 hN hg2 (fun j hj => by have := (h.fr.blk j hj).1; omega))
  have c3 := ((c2.more (al w2 o3)).grown h0 hN hg3 (fun j hj => by have := (h.by'.blk j hj).1; omega))
  have b2 := (hb.of_below (al w1 o2)).kept hg2 (fun j hj => aF j hj)
  have b3 := (b2.of_below (al w2 o3)).kept hg3 (fun j hj => aY j hj)
  have hsz1 : wr.heap.size ≤ (w1.alloc o2).heap.size := Nat.le_trans hf.size (al w1 o2).size
  have hsz2 : wr.heap.size ≤ (w2.alloc o3).heap.size := Nat.le_trans (Nat.le_trans hsz1 hg2.size) (al w2 o3).size
  -- the new from
  have hf'y : Off fv' yv := (hn2.off h.fy.symm (fun j hj => by have := hyw j hj; omega)).symm
  have hf2w : ∀ j, fv'.ownBlock = some j → j < (w2.alloc o3).heap.size := fun j hj => Nat.lt_of_lt_of_le (hf2.blk j hj).2 (al w2 o3).size
  have hf3' := (OwnS.below hf2 (al w2 o3)).kept hg3 hf'y.none'
  have newapt : ∀ {z z' : Value} {m : Nat}, Apt z B lv' bv us' (vs ++ [v]) → New m z z' → (∀ j, Fp B lv' bv us' j → j < m) → (∀ x ∈ vs ++ [v], ∀ j, x.ownBlock = some j → j < m) → Apt z' B lv' bv us' (vs ++ [v]) := fun hz hn hF hx j hj => by
    rcases hn with h1 | h1 | ⟨t, h1, ht⟩
    · exact hz j (by rw [← h1]; exact hj)
    · rw [h1] at hj; cases hj
    · rw [h1] at hj; cases hj
      exact ⟨fun h3 => by have := hF j h3; omega, fun x hx' e => by have := hx x hx' j e; omega⟩
  have fpl1 : ∀ j, Fp B lv' bv us' j → j < (w1.alloc o2).heap.size := fun j hj => Nat.lt_of_lt_of_le (hb.fp_lt j hj) (al w1 o2).size
  have vl1 : ∀ x ∈ vs ++ [v], ∀ j, x.ownBlock = some j → j < (w1.alloc o2).heap.size := fun x hx j hj => Nat.lt_of_lt_of_le (hb.own.vblk x hx j hj) (al w1 o2).size
  have fpl2 : ∀ j, Fp B lv' bv us' j → j < (w2.alloc o3).heap.size := fun j hj => Nat.lt_of_lt_of_le (b2.fp_lt j hj) (al w2 o3).size
  have vl2 : ∀ x ∈ vs ++ [v], ∀ j, x.ownBlock = some j → j < (w2.alloc o3).heap.size := fun x hx j hj => Nat.lt_of_lt_of_le (b2.own.vblk x hx j hj) (al w2 o3).size
  refine ⟨c3, ?_, ?_, ?_, hn3.off hf'y hf2w, newapt aF hn2 fpl1 vl1, newapt aY hn3 fpl2 vl2, ?_, by simp⟩
  · rw [List.map_append]; exact b3
  · rw [List.length_append, List.map_append, ints_append]; exact hf3'
  · rw [List.length_append, List.map_append, ints_append]; exact hf3
  · intro m hm
    rcases List.mem_append.1 hm with h1 | h1
    · exact h.come m h1
    · simp only [List.mem_singleton] at h1
      subst h1
      exact ⟨n, hs⟩
end RAll
end Go.Proofs.Ytmpgjnindbklaaa
