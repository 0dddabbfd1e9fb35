/-
  Two orders side by side, the program's and the reference's, as the statements of layer 2 keep them.
-/
import Derived.Test.YtkeipanehjjmdaaTSmall
namespace Go.Proofs.Ytkeipanehjjmdaa
open Go.RowKit BA TU
theorem OrdP.grown {w w' : World} {T b : Nat} {lv : Value} {left : List Int} {last : Int} {row : Option Nat} (h : OrdP w T b lv left last) (hg : w.grownBy w' row) (hb : some b ≠ row) (hl : ∀ k, lv.ownBlock = some k → some k ≠ row) : OrdP w' T b lv left last :=
  ⟨(hg.block b (lt_of_block h.1) hb).trans h.1, h.2.1.same fun k hk hlt => hg.block k hlt (hl k hk), h.2.2⟩
/-- Both orders, in memory that is the call's own. -/
structure Two (w0 w : World) (ob rb : Nat) (lo lr : Value) (l1 : List Int) (a1 : Int) (l2 : List Int) (a2 : Int) : Prop where
  o : OrdP w 53 ob lo l1 a1
  r : OrdP w 55 rb lr l2 a2
  below : Below w0.heap.size w0 w
  obN : w0.heap.size ≤ ob
  rbN : w0.heap.size ≤ rb
  ne : ob ≠ rb
  lor : lo.ownBlock ≠ some rb
  lro : lr.ownBlock ≠ some ob
variable {w0 w w' : World} {ob rb : Nat} {lo lr : Value} {l1 : List Int} {a1 : Int} {l2 : List Int} {a2 : Int}
theorem Two.drew (h : Two w0 w ob rb lo lr l1 a1 l2 a2) : Two w0 w.drew ob rb lo lr l1 a1 l2 a2 :=
  ⟨h.o.drew, h.r.drew, h.below.drew, h.obN, h.rbN, h.ne, h.lor, h.lro⟩
theorem Two.alloc (h : Two w0 w ob rb lo lr l1 a1 l2 a2) (x : Obj) : Two w0 (w.alloc x) ob rb lo lr l1 a1 l2 a2 :=
  ⟨h.o.alloc x, h.r.alloc x, h.below.alloc h.below.size x, h.obN, h.rbN, h.ne, h.lor, h.lro⟩
theorem reads_blk {w : World} {v : Value} {xs : List Value} (h : Reads w v xs) (h0 : xs ≠ []) : ∀ k, v.ownBlock = some k → k < w.heap.size := by
  intro k hk
  rcases h with ⟨hx, _⟩ | ⟨_, b, o, c, rfl, _, _, h3⟩
  · exact absurd hx h0
  · cases hk
    obtain ⟨x, hx⟩ : ∃ x, xs[0]? = some x := ⟨xs[0]'(List.length_pos_iff.2 h0), by simp⟩
    exact World.block_lt_of_cell? w _ (h3 0 x hx)
/-- Writes into a new block. -/
theorem Two.fresh (h : Two w0 w ob rb lo lr l1 a1 l2 a2) {wx : World} {row : Option Nat} (hg : w.grownBy wx row) (hr : ∀ k, row = some k → w.heap.size ≤ k) : Two w0 wx ob rb lo lr l1 a1 l2 a2 := by
  have hblk : ∀ k, k < w.heap.size → wx.heap[k]? = w.heap[k]? := fun k hk => hg.block k hk (fun e => by have := hr k e.symm; omega)
  exact ⟨⟨(hblk ob (lt_of_block h.o.1)).trans h.o.1, h.o.2.1.same fun k _ hlt => hblk k hlt, h.o.2.2⟩, ⟨(hblk rb (lt_of_block h.r.1)).trans h.r.1, h.r.2.1.same fun k _ hlt => hblk k hlt, h.r.2.2⟩,
    h.below.grown hg h.below.size (fun k hk => by have := hr k hk; have := h.below.size; omega), h.obN, h.rbN, h.ne, h.lor, h.lro⟩
theorem Two.below' (h : Two w0 w ob rb lo lr l1 a1 l2 a2) {wx : World} (hb : Below w.heap.size w wx) : Two w0 wx ob rb lo lr l1 a1 l2 a2 :=
  h.fresh (row := none) ⟨hb.os, hb.tape, hb.output, hb.size, fun k hk _ => hb.block k hk⟩ (fun k hk => by cases hk)
theorem Two.pickO (h : Two w0 w ob rb lo lr l1 a1 l2 a2) {w2 : World} {lo' : Value} {l1' : List Int} {a1' : Int} (hg : w.grownBy w2 (some ob)) (ho : OrdP w2 53 ob lo' l1' a1') (hb : lo'.ownBlock = lo.ownBlock) : Two w0 w2 ob rb lo' lr l1' a1' l2 a2 :=
  ⟨ho, h.r.grown hg (fun e => h.ne (by cases e; rfl)) (fun k hk e => h.lro (by rw [hk, e])), h.below.grown hg h.below.size (fun k hk => by cases hk; exact h.obN), h.obN, h.rbN, h.ne, by rw [hb]; exact h.lor, h.lro⟩
theorem Two.pickR (h : Two w0 w ob rb lo lr l1 a1 l2 a2) {w2 : World} {lr' : Value} {l2' : List Int} {a2' : Int} (hg : w.grownBy w2 (some rb)) (ho : OrdP w2 55 rb lr' l2' a2') (hb : lr'.ownBlock = lr.ownBlock) : Two w0 w2 ob rb lo lr' l1 a1 l2' a2' :=
  ⟨h.o.grown hg (fun e => h.ne (by cases e; rfl)) (fun k hk e => h.lor (by rw [hk, e])), ho, h.below.grown hg h.below.size (fun k hk => by cases hk; exact h.rbN), h.obN, h.rbN, h.ne, h.lor, by rw [hb]; exact h.lro⟩
theorem Two.ofNew {w1 w2 : World} {sv : Value} (hs : w0.heap.size ≤ w.heap.size) (hbel : Below w0.heap.size w0 w) (h1 : OrdP w1 53 ob lo l1 a1) (hb1 : Below w.heap.size w w1) (hob : w.heap.size ≤ ob) (_hlo : ∀ k, lo.ownBlock = some k → w.heap.size ≤ k)
    (h2 : OrdP w2 55 rb lr l2 a2) (hb2 : Below w1.heap.size w1 w2) (hrb : w1.heap.size ≤ rb) (hlr : ∀ k, lr.ownBlock = some k → w1.heap.size ≤ k) (hlo' : ∀ k, lo.ownBlock = some k → k < w1.heap.size) (_ : sv = sv) : Two w0 w2 ob rb lo lr l1 a1 l2 a2 :=
  ⟨⟨(hb2.block ob (lt_of_block h1.1)).trans h1.1, h1.2.1.same fun k _ hlt => hb2.block k hlt, h1.2.2⟩, h2, (hbel.trans (hb1.mono hs)).trans (hb2.mono (Nat.le_trans hs hb1.size)), by omega, by have := hb1.size; omega,
    by have := lt_of_block h1.1; omega, fun e => by have := hlo' rb e; omega, fun e => by have := hlr ob e; have := lt_of_block h1.1; omega⟩
end Go.Proofs.Ytkeipanehjjmdaa
