import Derived.Test.YtmpgjnindbklaaaEAll0
import Derived.Test.YtmpgjnindbklaaaEREnd
namespace Go.Proofs.Ytmpgjnindbklaaa
open Go.RowKit BA Ex

theorem Fr.pre {w w1 w2 : World} {F F' : Nat → Prop} (hb : Below w.heap.size w w1) (h : Fr w1 w2 F F') : Fr w w2 F F' :=
  ⟨h.os.trans hb.os, h.tape.trans hb.tape, h.output.trans hb.output, Nat.le_trans hb.size h.size, fun k hk hn => (h.block k (Nat.lt_of_lt_of_le hk hb.size) hn).trans (hb.block k hk), fun k hk => (h.fp k hk).imp id (Nat.le_trans hb.size)⟩
theorem flats_get {p : Lt} {l : List Ex.Met} {i : Nat} (hi : i < l.length) : (l.map fun m => flat p m.s).getD i [] = flat p (at' l i).s := by
  simp [at', List.getD_eq_getElem?_getD, hi]
theorem Bk.start {w : World} {base B g : Nat} (m : Nat) (hbx : w.heap[B]? = some (.cells #[.slice none 0 0, .slice (some ⟨g, 0, none⟩) 4096 4096] 60 (0, 0))) (hB : base ≤ B) (us : List Value) (bs : List (List Int))
    (hus : us = List.replicate 4096 (.slice none 0 0)) (hbs : bs = List.replicate 4096 []) (hb : OwnS w base 1 (.slice (some ⟨g, 0, none⟩) 4096 4096) 4096 us) (hg : g ≠ B) :
    Bk w base B (.slice none 0 0) (.slice (some ⟨g, 0, none⟩) 4096 4096) [] us [] bs m := by
  have hu : ∀ u ∈ us, u = .slice none 0 0 := fun u hu => by rw [hus] at hu; exact List.eq_of_mem_replicate hu
  have hy : ∀ y ∈ bs, y = [] := fun y hy => by rw [hbs] at hy; exact List.eq_of_mem_replicate hy
  have off : ∀ {a : Value}, Off (.slice none 0 0) a := fun {a} k hk => by cases hk
  refine ⟨{ box := hbx, hB := hB, l := OwnS.nil _ _ _, b := hb, lr := fun k v x hv => by simp at hv, br := fun h u y hu' hy' => ?_, bl := by rw [hbs, List.length_replicate], lB := (by intro e; cases e), bB := (by intro e; cases e; exact hg rfl), lb := off, vB := fun v hv => by simp at hv, vl := fun v hv => by simp at hv, vb := fun v hv => by simp at hv, uB := fun u hu' => (by rw [hu u hu']; intro e; cases e), ul := fun u hu' => (by rw [hu u hu']; exact off), ub := fun u hu' => (by rw [hu u hu']; exact off), vu := fun v hv => (by simp at hv), uu := fun h h' u u' _ hu1 _ => (by rw [hu u (List.mem_of_getElem? hu1)]; exact off) }, fun h y hy' i => ?_, fun x hx => by simp at hx, fun y hy' => by rw [hy y hy']; simp⟩
  · rw [hu u (List.mem_of_getElem? hu'), hy y (List.mem_of_getElem? hy')]
    exact OwnS.nil _ _ _
  · rw [hy y (List.mem_of_getElem? hy')]
    constructor
    · intro h; simp at h
    · rintro ⟨h0, h1, _⟩
      simp at h1
      omega
theorem RAll.start {w w1 : World} {N B : Nat} {sw st lv bv : Value} {vs us : List Value} {p : Lt} {bs : List (List Int)} (hN : N + 1 ≤ w1.heap.size) (h : RChk w w1 N sw st p) (hb : Bk w1 (N + 1) B lv bv vs us [flat p (first p)] bs (p.words.length + 5 * p.threads.length + 1)) :
    RAll w ((w1.alloc (.cells #[.int .i64 (-1)] 3 (0, 0))).alloc (.cells #[.int .i64 (-1)] 3 (0, 0))) N B sw st lv bv (.slice (some ⟨w1.heap.size, 0, none⟩) 1 1) (.slice (some ⟨(w1.alloc (.cells #[.int .i64 (-1)] 3 (0, 0))).heap.size, 0, none⟩) 1 1) vs us p [⟨first p, -1, -1⟩] bs := by
  have al : ∀ (w : World) (o : Obj), Below w.heap.size w (w.alloc o) := fun w o => (Below.refl _ _).alloc (Nat.le_refl _) _
  have o1 : OwnS (w1.alloc (.cells #[.int .i64 (-1)] 3 (0, 0))) (N + 1) 1 (.slice (some ⟨w1.heap.size, 0, none⟩) 1 1) 1 [.int .i64 (-1)] := ownS_base (ownS_new w1 #[.int .i64 (-1)] 3 1 1 rfl (by decide)) hN
  have o2 := ownS_base (ownS_new (w1.alloc (.cells #[.int .i64 (-1)] 3 (0, 0))) #[.int .i64 (-1)] 3 1 1 rfl (by decide)) (Nat.le_trans hN (al _ _).size)
  have hsz : (w1.alloc (.cells #[.int .i64 (-1)] 3 (0, 0))).heap.size = w1.heap.size + 1 := by simp
  have apt : ∀ n c k, w1.heap.size ≤ n → Apt (.slice (some ⟨n, 0, none⟩) k c) B lv bv us vs := fun n c k hn j hj => by
    cases hj
    exact ⟨fun hF => by have := hb.fp_lt n hF; omega, fun x hx e => by have := hb.own.vblk x hx n e; omega⟩
  refine ⟨(h.more (al _ _)).more (al _ _), (hb.of_below (al _ _)).of_below (al _ _), OwnS.below o1 (al _ _), o2, ?_, apt _ _ _ (Nat.le_refl _), apt _ _ _ (by rw [hsz]; omega), come_first p, by simp⟩
  intro k hk hk'
  cases hk
  rw [hsz] at hk'
  simp only [Value.ownBlock, Option.some.injEq] at hk'
  omega
/-- A thread's step, once it is known. -/
theorem oneR_none {p : Lt} {i k : Nat} {l : List Ex.Met} (h : Ex.step p (at' l i).s k = none) : oneR p i l k = l := by unfold oneR; rw [h]
theorem oneR_old {p : Lt} {i k : Nat} {l : List Ex.Met} {s : St} (h : Ex.step p (at' l i).s k = some s) (hm : s ∈ l.map (·.s)) : oneR p i l k = l := by unfold oneR; rw [h]; simp only [if_pos hm]
theorem oneR_new {p : Lt} {i k : Nat} {l : List Ex.Met} {s : St} (h : Ex.step p (at' l i).s k = some s) (hm : s ∉ l.map (·.s)) : oneR p i l k = l ++ [⟨s, i, k⟩] := by unfold oneR; rw [h]; simp only [if_neg hm]
/-- What a thread's step wants of the document's functions. -/
theorem step_facts {p : Lt} {s : St} {k : Nat} (hp : check p = true) (hw : Wf p s) (hb : s.bad = false) (hk : k < p.threads.length) :
    (Ex.step p s k = none ∧ (g (flat p s) (p.words.length + 5 * k) == ((p.threads.getD k []).length : Int)) = true) ∨
    (∃ s' j x, Ex.step p s k = some s' ∧ (g (flat p s) (p.words.length + 5 * k) == ((p.threads.getD k []).length : Int)) = false ∧ j < (p.threads.getD k []).length ∧ g (flat p s) (p.words.length + 5 * k) = (j : Int) ∧
      (p.threads.getD k []).getD j default = x ∧ lineOK p.words.length (p.threads.getD k []).length x = true ∧ fstep (flat p s) (p.words.length + 5 * k) x = flat p s') := by
  obtain ⟨⟨_, h8, _, h4⟩, hall⟩ := check_facts hp
  have hgk : g (flat p s) (p.words.length + 5 * k) = g s.c (8 + k) := by rw [flat_g hw.len h8 h4 (by omega), psi_at]
  cases hl' : lineAt p s.c k with
  | none =>
    have hov := lineAt_none hk hl'
    refine .inl ⟨by simp [Ex.step, hl', hb], ?_⟩
    rw [hgk]
    have := (hw.at' k hk).2
    simp only [beq_iff_eq]
    omega
  | some x =>
    obtain ⟨_, hlt', hx⟩ := lineAt_some hl'
    obtain ⟨j, hj⟩ := Int.eq_ofNat_of_zero_le (hw.at' k hk).1
    have hxj : (p.threads.getD k []).getD j default = x := by rw [hx, hj]; rfl
    obtain ⟨s', hs'⟩ : ∃ s', Ex.step p s k = some s' := by simp [Ex.step, hl', hb]
    obtain ⟨x', hx', hfs⟩ := fstep_flat hp hw hs'
    rw [hl'] at hx'
    cases hx'
    refine .inr ⟨s', j, x, hs', ?_, by omega, by rw [hgk]; omega, hxj, by rw [← hxj]; exact (hall k hk).2 j (by omega), hfs⟩
    rw [hgk]
    simp only [beq_eq_false_iff_ne]
    omega
theorem fromR_next {p : Lt} {i k T : Nat} {l : List Ex.Met} (hk : k < T) : fromR p i l k (T - k) = fromR p i (oneR p i l k) (k + 1) (T - (k + 1)) := by
  rw [show T - k = (T - (k + 1)) + 1 by omega]; rfl
theorem goesR_next {p : Lt} {i : Nat} {l : List Ex.Met} (hi : i < l.length) (hl : l.length ≤ 20000) (h2 : (fromR p i l 0 p.threads.length).length ≤ 20000) : goesR p (most + 1 - i) i l = goesR p (most + 1 - (i + 1)) (i + 1) (fromR p i l 0 p.threads.length) := by
  have hm : most = 20000 := rfl
  rw [show most + 1 - i = (most + 1 - (i + 1)) + 1 by omega]
  show (if i < l.length then _ else _) = _
  rw [if_pos hi, if_neg (by omega)]
theorem goesR_stop {p : Lt} {i : Nat} {l : List Ex.Met} (hi : i < l.length) (hl : l.length ≤ 20000) (h2 : 20000 < (fromR p i l 0 p.threads.length).length) : goesR p (most + 1 - i) i l = none := by
  have hm : most = 20000 := rfl
  rw [show most + 1 - i = (most + 1 - (i + 1)) + 1 by omega]
  show (if i < l.length then _ else _) = _
  rw [if_pos hi, if_pos (by omega)]
theorem goesR_end {p : Lt} {l : List Ex.Met} (hl : l.length ≤ 20000) : goesR p (most + 1 - l.length) l.length l = some l := by
  have hm : most = 20000 := rfl
  rw [show most + 1 - l.length = (most - l.length) + 1 by omega]
  show (if l.length < l.length then _ else _) = _
  rw [if_neg (by omega)]
theorem at_left {l : List Ex.Met} {m : Ex.Met} {i : Nat} (hi : i < l.length) : at' (l ++ [m]) i = at' l i := by
  simp [at', List.getD_eq_getElem?_getD, List.getElem?_append_left hi]
namespace RAll
variable {w wr : World} {N B : Nat} {sw st lv bv fv yv : Value} {vs us : List Value} {p : Lt} {l : List Ex.Met} {bs : List (List Int)}
theorem row (h : RAll w wr N B sw st lv bv fv yv vs us p l bs) {i : Nat} (hi : i < l.length) : ∃ gl cl sv, lv = .slice (some ⟨gl, 0, none⟩) l.length cl ∧ wr.cell? ⟨gl, i, none⟩ = some sv ∧ Reads wr sv (ints (flat p (at' l i).s)) ∧ wr.cell? ⟨B, 0, none⟩ = some (.slice (some ⟨gl, 0, none⟩) l.length cl) := by
  obtain ⟨g, cap, a, c, h1, _, h3, h4⟩ := h.book.own.row (i := i) (by simpa using hi)
  rw [flats_get hi] at h4
  rw [List.length_map] at h1
  exact ⟨g, cap, _, h1, h3, h4, by rw [← h1]; exact h.book.own.c0⟩
/-- What 'more' does of a step's state. -/
theorem call_more {w5 w6 : World} {v6 : Value} {s' : St} {n : Nat} (h : RAll w wr N B sw st lv bv fv yv vs us p l bs) (hp : check p = true) (h0 : PHas w sw st p) (hN : w.heap.size = N) (hb5 : Below wr.heap.size wr w5) (hb6 : Below w5.heap.size w5 w6)
    (hv6 : OwnS w6 w5.heap.size 1 v6 (flat p s').length (ints (flat p s'))) (hs : Path p n s') (hl : l.length ≤ 30000) :
    Calls Try.prog 46 #[.pointer (some ⟨B, 0, none⟩), v6] w6 fun e w7 =>
      (s' ∈ l.map (·.s) ∧ e = .returned (.bool false) ∧ RAll w w7 N B sw st lv bv fv yv vs us p l bs ∧ RChk w w7 N sw st p) ∨
      (s' ∉ l.map (·.s) ∧ e = .returned (.bool true) ∧ (∃ lv' us' bs', Bk w7 (N + 1) B lv' bv (vs ++ [v6]) us' ((l.map fun m => flat p m.s) ++ [flat p s']) bs' (p.words.length + 5 * p.threads.length + 1) ∧ Fr w5 w7 (Fp B lv bv us) (Fp B lv' bv us')) ∧ RChk w w7 N sw st p) := by
  obtain ⟨⟨_, h8, _, h4⟩, _⟩ := check_facts hp
  have h5 := h.more hb5
  have h6 := h5.more hb6
  have hblk : ∀ k, v6.ownBlock = some k → w5.heap.size ≤ k := fun k hk => (hv6.blk k hk).1
  have hN5 : N + 1 ≤ w5.heap.size := by have := h5.chk.box; rw [Array.getElem?_eq_some_iff] at this; exact this.1
  have hfl := flat_len (p := p) (path_zero hp hs).1.len h8 h4
  refine (more_walk (x := flat p s') w6 h6.book hfl (ownS_base hv6 hN5) (fun e => ?_) (fun k hk e => ?_) (fun k hk e => ?_) (fun u hu k hk e => ?_) (by simp; omega) (by omega) (Nat.le_trans hN5 hb6.size)).mono ?_
  · have h1 := hblk B e; have h2 := h5.book.own.lt; omega
  · have h1 := hblk k hk; have h2 := h5.book.own.lblk k e; omega
  · have h1 := hblk k hk; have h2 := h5.book.own.bblk k e; omega
  · have h1 := hblk k hk; have h2 := h5.book.own.ublk u hu k e; omega
  · rintro e w7 (⟨hm, rfl, hb7⟩ | ⟨hm, rfl, lv', us', bs', hb, hf⟩)
    · exact .inl ⟨(flat_mem hp h.come hs).1 hm, rfl, h6.more hb7, (h6.more hb7).chk⟩
    · exact .inr ⟨fun hh => hm ((flat_mem hp h.come hs).2 hh), rfl, ⟨lv', us', bs', hb, hf.pre hb6⟩, h6.chk.fr h0 hN hf h6.book.fp_base⟩
theorem fr7 {w7 : World} {F' : Nat → Prop} (h : RAll w wr N B sw st lv bv fv yv vs us p l bs) (hf : Fr wr w7 (Fp B lv bv us) F') (o : Obj) : OwnS (w7.alloc o) (N + 1) 1 fv l.length (ints (l.map (·.fr))) :=
  OwnS.alloc (OwnS.blk_kept h.fr (fun k hk => hf.block k (h.fr.blk k hk).2 (h.fF k hk).1)) o
theorem by7 {w7 w8 : World} {F' : Nat → Prop} (h : RAll w wr N B sw st lv bv fv yv vs us p l bs) (hf : Fr wr w7 (Fp B lv bv us) F') (o o' : Obj) (hg : (w7.alloc o).grownBy w8 fv.ownBlock) : OwnS (w8.alloc o') (N + 1) 1 yv l.length (ints (l.map (·.by'))) :=
  OwnS.alloc ((OwnS.alloc (OwnS.blk_kept h.by' (fun k hk => hf.block k (h.by'.blk k hk).2 (h.yF k hk).1)) o).kept hg h.fy.symm.none') o'
end RAll
end Go.Proofs.Ytmpgjnindbklaaa
