/-
  The chapter's example, as the statements of layer 2 ask it first: it holds. And the size test.
-/
import Derived.Test.YtkeipanehjjmdaaTMake2
namespace Go.Proofs.Ytkeipanehjjmdaa
open Go.RowKit BA TU
theorem OrdP.alloc {w : World} {T b : Nat} {lv : Value} {left : List Int} {last : Int} (h : OrdP w T b lv left last) (o : Obj) : OrdP (w.alloc o) T b lv left last :=
  ⟨(Below.heap_alloc _ _ _ (lt_of_block h.1)).trans h.1, h.2.1.same fun _ _ hlt => Below.heap_alloc _ _ _ hlt, h.2.2⟩
theorem reads_lit (w : World) (cs : Array Value) (T : TypeId) (h : cs.size ≤ maxLen) : Reads (w.alloc (.cells cs T)) (.slice (some ⟨w.heap.size, 0, none⟩) cs.size cs.size) cs.toList := by
  by_cases h0 : cs.toList = []
  · have hz : cs.size = 0 := by simpa using congrArg List.length h0
    exact .inl ⟨h0, _, _, by rw [hz], by unfold maxLen; omega, fun h => by cases h⟩
  · refine .inr ⟨h0, w.heap.size, 0, cs.size, by simp, by simp, h, fun i u hu => ?_⟩
    have hn := heap_alloc_new w (.cells cs T)
    unfold World.cell?
    rw [show (⟨w.heap.size, 0 + i, none⟩ : Addr).block = w.heap.size from rfl, hn]
    simpa using hu
theorem tknown_new (w : World) (sv : Value) (hr : Reads w sv ([5, -1].map (Value.int .i64))) : Calls Try.prog 14 #[sv] w (NewPost 53 w [5, -1] (-1)) := new_any sv [5, -1] w hr (by decide)
theorem known_pick {ob : Nat} {lv : Value} {left : List Int} {last : Int} {w : World} (l : List Bool) {rv : Value} (ho : OrdP w 53 ob lv left last) (hr : Reads w rv (bools l)) (hlen : l.length ≤ 1000000000)
    (k : Int) (left' : List Int) (last' : Int) (h1 : pickK left last (rdy l) = k) (h2 : pickLeft left (rdy l) = left') (h3 : pickLast left last (rdy l) = last') :
    Calls Try.prog 16 #[.pointer (some ⟨ob, 0, none⟩), rv] w fun e w' => e = .returned (.int .i64 k) ∧ w.grownBy w' (some ob) ∧ ∃ lv', OrdP w' 53 ob lv' left' last' := by
  refine (pick_any ob lv rv left last l w ho hr hlen).mono ?_
  rintro e w' ⟨rfl, hg, lv', ho', _⟩
  subst h1 h2 h3
  exact ⟨rfl, hg, lv', ho'⟩
set_option maxRecDepth 100000 in
set_option maxHeartbeats 1000000 in
theorem tknown (w : World) : Calls Try.prog 12 #[] w fun e w' => e = .returned (.bool true) ∧ Below w.heap.size w w' := by
  go_enter Try.func12, Try.ntmps12
  go_wp2_with fail
  have r0 := reads_lit w #[.int .i64 5, .int .i64 (-1)] 3 (by simp; unfold maxLen; omega)
  refine (tknown_new _ _ (by exact r0)).mono ?_
  rintro e w1 ⟨b, lv, rfl, ho, hb, hB, _⟩
  have hbel : Below w.heap.size w w1 := ((Below.refl _ _).alloc (Nat.le_refl _) _).trans (hb.mono (by simp))
  have hB' : w.heap.size ≤ b := by simp at hB; omega
  clear r0 hb hB
  go_wp2_with fail
  refine (left_any b lv [5, -1] (-1) _ ho).mono ?_
  rintro e w' ⟨rfl, rfl⟩
  go_wp2_with fail
  have r2 := reads_lit w1 #[.bool true, .bool true, .bool true] 4 (by simp; unfold maxLen; omega)
  refine (known_pick [true, true, true] (ho.alloc _) (by exact r2) (by decide) 2 [-1] 2 (by decide +kernel) (by decide +kernel) (by decide +kernel)).mono ?_
  rintro e w2 ⟨rfl, hg, lv2, ho2⟩
  have hbel2 : Below w.heap.size w w2 := (hbel.alloc hbel.size _).grown hg (by simp; have := hbel.size; omega) (fun k hk => by cases hk; exact hB')
  clear r2 hg
  go_wp2_with fail
  have r3 := reads_lit w2 #[.bool true, .bool false, .bool true] 4 (by simp; unfold maxLen; omega)
  refine (known_pick [true, false, true] (ho2.alloc _) (by exact r3) (by decide) 2 [] 2 (by decide +kernel) (by decide +kernel) (by decide +kernel)).mono ?_
  rintro e w3 ⟨rfl, hg, lv3, ho3⟩
  have hbel3 : Below w.heap.size w w3 := (hbel2.alloc hbel2.size _).grown hg (by simp; have := hbel2.size; omega) (fun k hk => by cases hk; exact hB')
  clear r3 hg
  go_wp2_with fail
  refine (left_any b lv3 [] 2 _ ho3).mono ?_
  rintro e w' ⟨rfl, rfl⟩
  go_wp2_with fail
  have r4 := reads_lit w3 #[.bool true, .bool true, .bool true] 4 (by simp; unfold maxLen; omega)
  refine (known_pick [true, true, true] (ho3.alloc _) (by exact r4) (by decide) 0 [] 0 (by decide +kernel) (by decide +kernel) (by decide +kernel)).mono ?_
  rintro e w4 ⟨rfl, hg, lv4, ho4⟩
  have hbel4 : Below w.heap.size w w4 := (hbel3.alloc hbel3.size _).grown hg (by simp; have := hbel3.size; omega) (fun k hk => by cases hk; exact hB')
  clear r4 hg
  go_wp2_with fail
  have r5 := reads_lit w4 #[.bool true, .bool true, .bool true] 4 (by simp; unfold maxLen; omega)
  refine (known_pick [true, true, true] (ho4.alloc _) (by exact r5) (by decide) 1 [] 1 (by decide +kernel) (by decide +kernel) (by decide +kernel)).mono ?_
  rintro e w5 ⟨rfl, hg, lv5, ho5⟩
  have hbel5 : Below w.heap.size w w5 := (hbel4.alloc hbel4.size _).grown hg (by simp; have := hbel4.size; omega) (fun k hk => by cases hk; exact hB')
  clear r5 hg
  go_wp2_with fail
  have r6 := reads_lit w5 #[.bool false] 4 (by simp; unfold maxLen; omega)
  refine (known_pick [false] (ho5.alloc _) (by exact r6) (by decide) (-1) [] 1 (by decide +kernel) (by decide +kernel) (by decide +kernel)).mono ?_
  rintro e w6 ⟨rfl, hg, lv6, ho6⟩
  have hbel6 : Below w.heap.size w w6 := (hbel5.alloc hbel5.size _).grown hg (by simp; have := hbel5.size; omega) (fun k hk => by cases hk; exact hB')
  clear r6 hg
  go_wp2_with fail
  have r7 := reads_lit w6 #[.bool true, .bool true, .bool true] 4 (by simp; unfold maxLen; omega)
  refine (known_pick [true, true, true] (ho6.alloc _) (by exact r7) (by decide) 2 [] 2 (by decide +kernel) (by decide +kernel) (by decide +kernel)).mono ?_
  rintro e w7 ⟨rfl, hg, lv7, ho7⟩
  have hbel7 : Below w.heap.size w w7 := (hbel6.alloc hbel6.size _).grown hg (by simp; have := hbel6.size; omega) (fun k hk => by cases hk; exact hB')
  clear r7 hg
  go_wp2
  go_ret
  exact ⟨rfl, hbel7⟩
end Go.Proofs.Ytkeipanehjjmdaa
