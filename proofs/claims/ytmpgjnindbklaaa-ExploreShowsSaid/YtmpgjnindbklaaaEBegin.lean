import Derived.Test.YtmpgjnindbklaaaEStep
import Derived.Laws.CopyOwn
namespace Go.Proofs.Ytmpgjnindbklaaa
open Go.RowKit BA Ex

theorem first_len {p : Lt} (h : p.words.length ≤ 8) : (first p).c.length = 28 := by
  simp [first]; omega

/-- What is at hand while the first state is made. -/
structure RBeg (w wr : World) (N : Nat) (Z : List Value) (sw st : Value) (p : Lt) : Prop where
  below : Below N w wr
  box : wr.heap[N]? = some (.cells #[sw, st] 25 (0, 0))
  out : wr.heap[N + 1]? = some (.cells Z.toArray 70 (0, 0))
  s : wr.heap[N + 2]? = some (.cells Z.toArray 70 (0, 0))
  words : Reads wr sw (ints p.words)

theorem RBeg.begin {w : World} {sw st : Value} {p : Lt} (h : PHas w sw st p) (Z : List Value) :
    RBeg w (((w.alloc (.cells #[sw, st] 25 (0, 0))).alloc (.cells Z.toArray 70 (0, 0))).alloc (.cells Z.toArray 70 (0, 0))) w.heap.size Z sw st p := by
  have hB : Below w.heap.size w (((w.alloc (.cells #[sw, st] 25 (0, 0))).alloc (.cells Z.toArray 70 (0, 0))).alloc (.cells Z.toArray 70 (0, 0))) :=
    (((Below.refl _ _).alloc (Nat.le_refl _) _).alloc (by simp) _).alloc (by simp; omega) _
  refine ⟨hB, ?_, ?_, ?_, h.words.same fun k _ hk => hB.block k hk⟩
  · rw [Below.heap_alloc _ _ _ (by simp; omega), Below.heap_alloc _ _ _ (by simp), heap_alloc_new]
  · rw [Below.heap_alloc _ _ _ (by simp)]
    simpa using heap_alloc_new (w.alloc (.cells #[sw, st] 25 (0, 0))) (.cells Z.toArray 70 (0, 0))
  · simpa using heap_alloc_new ((w.alloc (.cells #[sw, st] 25 (0, 0))).alloc (.cells Z.toArray 70 (0, 0))) (.cells Z.toArray 70 (0, 0))

theorem splice_zeros (xs : List Value) (m : Nat) (u : List Value) (h : xs.length ≤ m) : splice (List.replicate m (Value.int .i64 0) ++ u) 0 xs = xs ++ (List.replicate (m - xs.length) (Value.int .i64 0) ++ u) := by
  simp only [splice, List.take_zero, List.nil_append, Nat.zero_add]
  rw [List.drop_append_of_le_length (by simpa using h), List.drop_replicate]

theorem splice_first (p : Lt) (h8 : p.words.length ≤ 8) : (splice (List.replicate 28 (Value.int .i64 0) ++ [Value.bool false]) 0 (ints p.words)).toArray = stA (first p).c false := by
  rw [splice_zeros _ _ _ (by simp [ints]; omega)]
  simp only [stA, first, ints, List.map_append, List.map_replicate, List.length_map, List.append_assoc]

set_option maxRecDepth 100000 in
set_option maxHeartbeats 4000000 in
theorem begins_walk (sw st : Value) (p : Lt) (w : World) (h : PHas w sw st p) (h8 : p.words.length ≤ 8) :
    Calls Try.prog 43 #[.agg #[sw, st]] w fun e w' => e = .returned (.agg (stA (first p).c false)) ∧ Below w.heap.size w w' := by
  obtain ⟨aw, cw, rfl⟩ := h.words_shape
  have hR := RBeg.begin h (List.replicate 28 (Value.int .i64 0) ++ [Value.bool false])
  clear h
  go_enter Try.func43, Try.ntmps43
  go_wp2
  generalize hW : ((w.alloc (.cells #[.slice aw p.words.length cw, st] 25)).alloc (.cells #[Value.int .i64 0, Value.int .i64 0, Value.int .i64 0, Value.int .i64 0, Value.int .i64 0, Value.int .i64 0, Value.int .i64 0, Value.int .i64 0, Value.int .i64 0, Value.int .i64 0, Value.int .i64 0, Value.int .i64 0, Value.int .i64 0, Value.int .i64 0, Value.int .i64 0, Value.int .i64 0, Value.int .i64 0, Value.int .i64 0, Value.int .i64 0, Value.int .i64 0, Value.int .i64 0, Value.int .i64 0, Value.int .i64 0, Value.int .i64 0, Value.int .i64 0, Value.int .i64 0, Value.int .i64 0, Value.int .i64 0, Value.bool false] 70)).alloc (.cells #[Value.int .i64 0, Value.int .i64 0, Value.int .i64 0, Value.int .i64 0, Value.int .i64 0, Value.int .i64 0, Value.int .i64 0, Value.int .i64 0, Value.int .i64 0, Value.int .i64 0, Value.int .i64 0, Value.int .i64 0, Value.int .i64 0, Value.int .i64 0, Value.int .i64 0, Value.int .i64 0, Value.int .i64 0, Value.int .i64 0, Value.int .i64 0, Value.int .i64 0, Value.int .i64 0, Value.int .i64 0, Value.int .i64 0, Value.int .i64 0, Value.int .i64 0, Value.int .i64 0, Value.int .i64 0, Value.int .i64 0, Value.bool false] 70) = w3
  have hR3 : RBeg w w3 w.heap.size (List.replicate 28 (Value.int .i64 0) ++ [Value.bool false]) (.slice aw p.words.length cw) st p := by rw [← hW]; exact hR
  clear hW hR
  generalize hN : w.heap.size = N at hR3 ⊢
  have hx0 : w3.cell? ⟨N, 0, none⟩ = some (.slice aw p.words.length cw) := by simp [World.cell?, hR3.box]
  have hlt : N + 2 < w3.heap.size := by have := hR3.s; rw [Array.getElem?_eq_some_iff] at this; exact this.1
  have HR := Lib.hid hR3
  clear hR3
  go_region_law (refine step_copy_splice rfl (.tmp 5) (.tmp 7) 22 22 rfl 3 Try.underlying22 (by kernel_rfl) (some ⟨N + 2, 0, none⟩) aw 8 8 p.words.length cw rfl rfl (N + 2) 0 (List.replicate 28 (Value.int .i64 0) ++ [Value.bool false]) 70 (by exact HR.out.s) (ints p.words) ((by simp [ints] : (ints p.words).length = p.words.length).trans (Nat.min_eq_left h8).symm) (by
    intro hp
    refine ⟨rfl, ?_⟩
    rcases HR.out.words with ⟨hn, _⟩ | ⟨_, b, o, c, hv, _, _, h3⟩
    · rw [hn] at hp; simp at hp
    · simp only [Value.slice.injEq] at hv
      obtain ⟨rfl, _, _⟩ := hv
      exact ⟨_, rfl, fun j v hj => by rw [Addr.add_lit]; exact h3 j v hj⟩) (by simp [ints]; omega) (by simp [ints]; intro x _ ; rfl) (N + 2) w3 (by exact (Below.refl _ _).drew) (by omega) ?_; intro w4 hg4 hb4)
  have hZ := (hb4.block (N + 1) (by omega)).trans HR.out.out
  have hs4 := hg4.out
  rw [splice_first p h8] at hs4
  have hs7 := stA_size (first_len h8) false
  go_wp2_with (first
    | refine wpList_load_row rfl 70 (.tmp 3) rfl (N + 2) rfl 70 (stA (first p).c false) (0, 0) _ hs4 Try.underlying70 rfl (by rw [hs7]; exact info_state) ?_
    | refine wpList_store_row rfl 70 (.tmp 2) (.tmp 9) rfl (N + 1) (stA (first p).c false) rfl rfl 70 _ hZ (by rw [hs7]; exact info_state) (by rw [hs7]; simp) (stA_one _ _) ?_)
  refine bodyPost_ret (results_cell_row rfl _ _ (N + 1) 70 (stA (first p).c false) (0, 0) _ rfl (heap_setRow hZ) Try.underlying70 rfl (by rw [hs7]; exact info_state)) rfl ?_
  exact ⟨rfl, by rw [hN]; exact Go.Proofs.Ytmpgjnindbklaaa.below_setRow (HR.out.below.trans (hb4.mono (by omega))) _ (by omega)⟩
end Go.Proofs.Ytmpgjnindbklaaa
