import Derived.Test.YtmpgjnindbklaaaEStep
import Derived.Laws.CopyOwn
import Derived.Lib.SliceRun
namespace Go.Proofs.Ytmpgjnindbklaaa
open Go.RowKit BA Ex

theorem first_len {p : Lt} (h : p.words.length ≤ 8) : (first p).c.length = 28 := by
  simp [first]; omega

/-- What is at hand while the first state is made. -/
structure RBeg (w wr : World) (N : Nat) (Z : List Value) (sw st : Value) (p : Lt) : Prop where
  below : Below N w wr
  box : wr.heap[N]? = some (.cells #[sw, st] 25 (0, 0))
  out : wr.heap[N + 1]? = some (.cells Z.toArray 70 (0, 0))
  s : wr.heap[N + 2]? = some (.cells Z.toArray 70 (0, 0))
  words : Reads wr sw (ints p.words)

theorem RBeg.begin {w : World} {sw st : Value} {p : Lt} (h : PHas w sw st p) (Z : List Value) :
    RBeg w (((w.alloc (.cells #[sw, st] 25 (0, 0))).alloc (.cells Z.toArray 70 (0, 0))).alloc (.cells Z.toArray 70 (0, 0))) w.heap.size Z sw st p := by
  have hB : Below w.heap.size w (((w.alloc (.cells #[sw, st] 25 (0, 0))).alloc (.cells Z.toArray 70 (0, 0))).alloc (.cells Z.toArray 70 (0, 0))) :=
    (((Below.refl _ _).alloc (Nat.le_refl _) _).alloc (by simp) _).alloc (by simp; omega) _
  refine ⟨hB, ?_, ?_, ?_, h.words.same fun k _ hk => hB.block k hk⟩
  · rw [Below.heap_alloc _ _ _ (by simp; omega), Below.heap_alloc _ _ _ (by simp), heap_alloc_new]
  · rw [Below.heap_alloc _ _ _ (by simp)]
    simpa using heap_alloc_new (w.alloc (.cells #[sw, st] 25 (0, 0))) (.cells Z.toArray 70 (0, 0))
  · simpa using heap_alloc_new ((w.alloc (.cells #[sw, st] 25 (0, 0))).alloc (.cells Z.toArray 70 (0, 0))) (.cells Z.toArray 70 (0, 0))

theorem splice_zeros (xs : List Value) (m : Nat) (u : List Value) (h : xs.length ≤ m) : splice (List.replicate m (Value.int .i64 0) ++ u) 0 xs = xs ++ (List.replicate (m - xs.length) (Value.int .i64 0) ++ u) := by
  simp only [splice, List.take_zero, List.nil_append, Nat.zero_add]
  rw [List.drop_append_of_le_length (by simpa using h), List.drop_replicate]

theorem splice_first (p : Lt) (h8 : p.words.length ≤ 8) : (splice (List.replicate 28 (Value.int .i64 0) ++ [Value.bool false]) 0 (ints p.words)).toArray = stA (first p).c false := by
  rw [splice_zeros _ _ _ (by simp [ints]; omega)]
  simp only [stA, first, ints, List.map_append, List.map_replicate, List.length_map, List.append_assoc]

set_option maxRecDepth 100000 in
set_option maxHeartbeats 4000000 in
theorem begins_walk (sw st : Value) (p : Lt) (w : World) (h : PHas w sw st p) (h8 : p.words.length ≤ 8) :
    Calls Try.prog 43 #[.agg #[sw, st]] w fun e w' => e = .returned (.agg (stA (first p).c false)) ∧ Below w.heap.size w w' := by
  obtain ⟨aw, cw, rfl⟩ := h.words_shape
  have hR := RBeg.begin h (List.replicate 28 (Value.int .i64 0) ++ [Value.bool false])
  clear h
  go_enter Try.func43, Try.ntmps43
  go_wp2
  generalize hW : ((w.alloc (.cells #[.slice aw p.words.length cw, st] 25)).alloc (.cells #[Value.int .i64 0, Value.int .i64 0, Value.int .i64 0, Value.int .i64 0, Value.int .i64 0, Value.int .i64 0, Value.int .i64 0, Value.int .i64 0, Value.int .i64 0, Value.int .i64 0, Value.int .i64 0, Value.int .i64 0, Value.int .i64 0, Value.int .i64 0, Value.int .i64 0, Value.int .i64 0, Value.int .i64 0, Value.int .i64 0, Value.int .i64 0, Value.int .i64 0, Value.int .i64 0, Value.int .i64 0, Value.int .i64 0, Value.int .i64 0, Value.int .i64 0, Value.int .i64 0, Value.int .i64 0, Value.int .i64 0, Value.bool false] 70)).alloc (.cells #[Value.int .i64 0, Value.int .i64 0, Value.int .i64 0, Value.int .i64 0, Value.int .i64 0, Value.int .i64 0, Value.int .i64 0, Value.int .i64 0, Value.int .i64 0, Value.int .i64 0, Value.int .i64 0, Value.int .i64 0, Value.int .i64 0, Value.int .i64 0, Value.int .i64 0, Value.int .i64 0, Value.int .i64 0, Value.int .i64 0, Value.int .i64 0, Value.int .i64 0, Value.int .i64 0, Value.int .i64 0, Value.int .i64 0, Value.int .i64 0, Value.int .i64 0, Value.int .i64 0, Value.int .i64 0, Value.int .i64 0, Value.bool false] 70) = w3
  have hR3 : RBeg w w3 w.heap.size (List.replicate 28 (Value.int .i64 0) ++ [Value.bool false]) (.slice aw p.words.length cw) st p := by rw [← hW]; exact hR
  clear hW hR
  generalize hN : w.heap.size = N at hR3 ⊢
  have hx0 : w3.cell? ⟨N, 0, none⟩ = some (.slice aw p.words.length cw) := by simp [World.cell?, hR3.box]
  have hlt : N + 2 < w3.heap.size := by have := hR3.s; rw [Array.getElem?_eq_some_iff] at this; exact this.1
  have HR := Lib.hid hR3
  clear hR3
  go_region_law (refine step_copy_splice rfl (.tmp 5) (.tmp 7) 22 22 rfl 3 Try.underlying22 (by kernel_rfl) (some ⟨N + 2, 0, none⟩) aw 8 8 p.words.length cw rfl rfl (N + 2) 0 (List.replicate 28 (Value.int .i64 0) ++ [Value.bool false]) 70 (by exact HR.out.s) (ints p.words) ((by simp [ints] : (ints p.words).length = p.words.length).trans (Nat.min_eq_left h8).symm) (by
    intro hp
    refine ⟨rfl, ?_⟩
    rcases HR.out.words with ⟨hn, _⟩ | ⟨_, b, o, c, hv, _, _, h3⟩
    · rw [hn] at hp; simp at hp
    · simp only [Value.slice.injEq] at hv
      obtain ⟨rfl, _, _⟩ := hv
      exact ⟨_, rfl, fun j v hj => by rw [Addr.add_lit]; exact h3 j v hj⟩) (by simp [ints]; omega) (by simp [ints]; intro x _ ; rfl) (N + 2) w3 (by exact (Below.refl _ _).drew) (by omega) ?_; intro w4 hg4 hb4)
  have hZ := (hb4.block (N + 1) (by omega)).trans HR.out.out
  have hs4 := hg4.out
  rw [splice_first p h8] at hs4
  have hs7 := stA_size (first_len h8) false
  go_wp2_with (first
    | refine wpList_load_row rfl 70 (.tmp 3) rfl (N + 2) rfl 70 (stA (first p).c false) (0, 0) _ hs4 Try.underlying70 rfl (by rw [hs7]; exact info_state) ?_
    | refine wpList_store_row rfl 70 (.tmp 2) (.tmp 9) rfl (N + 1) (stA (first p).c false) rfl rfl 70 _ hZ (by rw [hs7]; exact info_state) (by rw [hs7]; simp) (stA_one _ _) ?_)
  refine bodyPost_ret (results_cell_row rfl _ _ (N + 1) 70 (stA (first p).c false) (0, 0) _ rfl (heap_setRow hZ) Try.underlying70 rfl (by rw [hs7]; exact info_state)) rfl ?_
  exact ⟨rfl, by rw [hN]; exact Go.Proofs.Ytmpgjnindbklaaa.below_setRow (HR.out.below.trans (hb4.mono (by omega))) _ (by omega)⟩
end Go.Proofs.Ytmpgjnindbklaaa
namespace Go.Proofs.Ytmpgjnindbklaaa
open Go.RowKit BA Ex

theorem ints_one (xs : List Int) : ∀ u ∈ ints xs, u.oneCell' = true := by
  intro u hu
  simp only [ints, List.mem_map] at hu
  obtain ⟨a, _, rfl⟩ := hu
  rfl
theorem OwnS.empty (w : World) (t : TypeId) {base : Nat} (hb : base ≤ w.heap.size) : OwnS (w.alloc (.cells #[] t (0, 0))) base 1 (.slice (some ⟨w.heap.size, 0, none⟩) 0 0) 0 [] :=
  ⟨t, rfl, .inr ⟨w.heap.size, 0, #[], rfl, hb, heap_alloc_new _ _, Nat.le_refl _, by unfold maxLen; omega, rfl, rfl⟩⟩

set_option maxRecDepth 100000 in
set_option maxHeartbeats 4000000 in
theorem clone_walk (b o c : Nat) (xs : List Int) (w : World) (h : ∀ j u, (ints xs)[j]? = some u → w.cell? ⟨b, o + j, none⟩ = some u) (hl : xs.length ≤ 1000) :
    Calls Try.prog 45 #[.slice (some ⟨b, o, none⟩) xs.length c] w fun e w' => ∃ v', e = .returned v' ∧ OwnS w' w.heap.size 1 v' xs.length (ints xs) ∧ Below w.heap.size w w' := by
  have hnil : ∀ w n c, (binOp .eql 22 (.slice (some ⟨b, o, none⟩) n c) (.slice none 0 0)).run Try.prog w = .ok (.bool false) w := fun w n c => Lib.run_eql_slice_nil w 22 3 _ n c 0 0 Try.underlying22
  have hsame : ∀ j u, (ints xs)[j]? = some u → (w.alloc (.cells #[] 3 (0, 0))).cell? ((⟨b, o, none⟩ : Addr).add j) = some u := fun j u hj => by
    rw [Addr.add_lit]
    have hc := h j u hj
    exact (World.cell?_of_block (a := ⟨b, o + j, none⟩) (w := w) (Below.heap_alloc _ _ _ (World.block_lt_of_cell? w _ hc))).trans hc
  have hown := OwnS.empty w 3 (Nat.le_refl _)
  have hb0 : Below w.heap.size w (w.alloc (.cells #[] 3 (0, 0))) := (Below.refl _ _).alloc (Nat.le_refl _) _
  go_enter Try.func45, Try.ntmps45
  go_wp2_with (at_builtin; refine wpList_append_ownS _ rfl (.tmp 5) (.tmp 6) 22 rfl w.heap.size 3 Try.t3 (.int .i64 0) 1 8 Try.underlying22 (by kernel_rfl) rfl rfl rfl rfl (by decide) _ 0 [] rfl hown ⟨b, o, none⟩ xs.length c (ints xs) rfl (by simp [ints]) hsame (ints_one xs) (by unfold maxLen; omega) (by omega) (by simp) ?_; intro v' w' hv' hg' hob')
  go_ret
  exact ⟨_, rfl, by simpa using hv', hb0.grown hg' (by simp) (fun k hk => by cases hk; exact Nat.le_refl _)⟩
end Go.Proofs.Ytmpgjnindbklaaa
namespace Go.Proofs.Ytmpgjnindbklaaa
open Go.RowKit BA Ex

/-- A state and a program, boxed by the call. -/
structure RSP (w wr : World) (N : Nat) (c : List Int) (bad : Bool) (sw st : Value) (p : Lt) : Prop where
  below : Below N w wr
  s : Sta wr N c bad
  box : wr.heap[N + 1]? = some (.cells #[sw, st] 25 (0, 0))
  has : PHas wr sw st p

theorem RSP.more {w wr w' : World} {N : Nat} {c : List Int} {bad : Bool} {sw st : Value} {p : Lt} (h : RSP w wr N c bad sw st p) (hb : Below wr.heap.size wr w') : RSP w w' N c bad sw st p := by
  have hlt : N + 1 < wr.heap.size := by have := h.box; rw [Array.getElem?_eq_some_iff] at this; exact this.1
  exact ⟨h.below.trans (hb.mono (by omega)), ⟨h.s.len, (hb.block N (by omega)).trans h.s.blk⟩, (hb.block (N + 1) hlt).trans h.box, h.has.below hb⟩
theorem RSP.cell0 {w wr : World} {N : Nat} {c : List Int} {bad : Bool} {sw st : Value} {p : Lt} (h : RSP w wr N c bad sw st p) : wr.cell? ⟨N + 1, 0, none⟩ = some sw := by simp [World.cell?, h.box]
theorem RSP.cell1 {w wr : World} {N : Nat} {c : List Int} {bad : Bool} {sw st : Value} {p : Lt} (h : RSP w wr N c bad sw st p) : wr.cell? ⟨N + 1, 1, none⟩ = some st := by simp [World.cell?, h.box]
theorem RSP.begin {w : World} {c : List Int} {bad : Bool} {sw st : Value} {p : Lt} (h : PHas w sw st p) (hc : c.length = 28) :
    RSP w ((w.alloc (.cells (stA c bad) 70 (0, 0))).alloc (.cells #[sw, st] 25 (0, 0))) w.heap.size c bad sw st p := by
  have hb : Below w.heap.size w ((w.alloc (.cells (stA c bad) 70 (0, 0))).alloc (.cells #[sw, st] 25 (0, 0))) :=
    ((Below.refl _ _).alloc (Nat.le_refl _) _).alloc (by simp) _
  refine ⟨hb, ⟨hc, ?_⟩, ?_, h.below hb⟩
  · rw [Below.heap_alloc _ _ _ (by simp), heap_alloc_new]; rfl
  · simpa using heap_alloc_new (w.alloc (.cells (stA c bad) 70 (0, 0))) (.cells #[sw, st] 25 (0, 0))

def overTo (p : Lt) (c : List Int) (k : Nat) : Prop := ∀ j, j < k → ((p.threads.getD j []).length : Int) ≤ g c (8 + j)
theorem over_iff (p : Lt) (c : List Int) (bad : Bool) : over p ⟨c, bad⟩ = true ↔ overTo p c p.threads.length ∧ bad = false := by
  simp [over, overTo]
theorem over_not {p : Lt} {c : List Int} {bad : Bool} {k : Nat} (hk : k < p.threads.length) (h : g c (8 + k) < ((p.threads.getD k []).length : Int)) : over p ⟨c, bad⟩ = false := by
  rw [← Bool.not_eq_true, over_iff]
  rintro ⟨h1, _⟩
  have := h1 k hk
  omega

set_option maxRecDepth 100000 in
set_option maxHeartbeats 4000000 in
theorem over_walk (sw st : Value) (c : List Int) (bad : Bool) (p : Lt) (w : World) (h : PHas w sw st p) (hc : c.length = 28) (hT : p.threads.length ≤ 4) :
    Calls Try.prog 30 #[.agg (stA c bad), .agg #[sw, st]] w fun e w' => e = .returned (.bool (over p ⟨c, bad⟩)) ∧ Below w.heap.size w w' := by
  obtain ⟨at0, ct, rfl⟩ := h.threads.shape
  have hR := RSP.begin (bad := bad) h hc
  clear h
  have hone := stA_one c bad
  generalize hA : stA c bad = A at hone hR ⊢
  have HA := Lib.hid hA
  clear hA
  go_enter Try.func30, Try.ntmps30
  go_wp2
  generalize hW : (w.alloc (.cells A 70)).alloc (.cells #[sw, .slice at0 p.threads.length ct] 25) = w0 at hR ⊢
  clear hW
  generalize hN : w.heap.size = N at hR ⊢
  have HN := Lib.hid hN
  clear hN
  go_loopw [10] (fun kv wr => ∃ k : Nat, k ≤ p.threads.length ∧ kv = .int .i64 k ∧ RSP w wr N c bad sw (.slice at0 p.threads.length ct) p ∧ overTo p c k) (fun kv _ => p.threads.length - (intOf kv).toNat)
  case atStart => exact ⟨0, by omega, rfl, hR, fun j hj => by omega⟩
  case round =>
    clear hR
    obtain ⟨k, hk, rfl, hR, hO⟩ := hrel
    by_cases hlt : k < p.threads.length
    · obtain ⟨b, o, c', tv, hv, hbl, hct, hL⟩ := hR.has.threads.at' hlt
      cases hv
      obtain ⟨al, cl, rfl⟩ := hL.shape
      have hq := hR.s.at' (i := 8 + k) (by omega)
      have hk4 : (k : Int) < 4 := by omega
      have hnl : N < wr.heap.size := hR.s.lt
      by_cases hv : g c (8 + k) < ((p.threads.getD k []).length : Int)
      · have hno := over_not (bad := bad) hlt hv
        generalize p.threads.getD k [] = tt at hL hct hv
        generalize g c (8 + k) = v at hq hv
        go_wp2
        go_ret
        exact ⟨by rw [hno]; rfl, by rw [HN.out]; exact hR.below⟩
      · have hO' : overTo p c (k + 1) := fun j hj => by
          by_cases hjk : j = k
          · subst hjk; omega
          · exact hO j (by omega)
        generalize p.threads.getD k [] = tt at hL hct hv
        generalize g c (8 + k) = v at hq hv
        go_wp2
        go_roundw
        case rel => exact ⟨k + 1, by omega, by go_num, hR, hO'⟩
        case measure => simp [intOf]; omega
    · obtain rfl : k = p.threads.length := by omega
      have hb := hR.s.badc
      go_wp2
      go_ret
      refine ⟨congrArg (fun b => Ending.returned (.bool b)) ?_, by rw [HN.out]; exact hR.below⟩
      cases bad with
      | true => exact (Bool.eq_false_iff.2 (fun hh => by have := ((over_iff p c true).1 hh).2; cases this)).symm
      | false => exact ((over_iff p c false).2 ⟨hO, rfl⟩).symm
end Go.Proofs.Ytmpgjnindbklaaa
namespace Go.Proofs.Ytmpgjnindbklaaa
open Go.RowKit BA Ex

theorem RSP.grown {w wr w' : World} {N : Nat} {c : List Int} {bad : Bool} {sw st : Value} {p : Lt} {row : Option Nat} (h : RSP w wr N c bad sw st p) (h0 : PHas w sw st p) (hN : w.heap.size = N) (hg : wr.grownBy w' row) (hr : ∀ k, row = some k → N + 2 ≤ k) : RSP w w' N c bad sw st p := by
  have hlt : N + 1 < wr.heap.size := by have := h.box; rw [Array.getElem?_eq_some_iff] at this; exact this.1
  have hb : Below N w w' := h.below.grown hg (by omega) (fun k hk => by have := hr k hk; omega)
  refine ⟨hb, h.s.kept hg (fun e => by have := hr N e.symm; omega), (hg.block (N + 1) hlt (fun e => by have := hr (N + 1) e.symm; omega)).trans h.box, h0.below (by rw [hN]; exact hb)⟩

def rowTo (p : Lt) (c : List Int) (k : Nat) : List Int := c.take p.words.length ++ (List.range k).flatMap fun k => (c.drop (12 + 4 * k)).take 4
theorem rowTo_succ (p : Lt) (c : List Int) (k : Nat) : rowTo p c (k + 1) = rowTo p c k ++ (c.drop (12 + 4 * k)).take 4 := by
  simp [rowTo, List.range_succ]
theorem rowTo_len {p : Lt} {c : List Int} (hc : c.length = 28) (h8 : p.words.length ≤ 8) {k : Nat} (hk : k ≤ 4) : (rowTo p c k).length = p.words.length + 4 * k := by
  induction k with
  | zero => simp [rowTo]; omega
  | succ k ih =>
    rw [rowTo_succ, List.length_append, ih (by omega)]
    simp only [List.length_take, List.length_drop]
    omega
theorem row_to (p : Lt) (s : St) : row p s = rowTo p s.c p.threads.length := rfl
theorem ints_append (a b : List Int) : ints (a ++ b) = ints a ++ ints b := by simp [ints]
theorem regs_cells {w : World} {N : Nat} {c : List Int} {bad : Bool} (h : Sta w N c bad) {o n : Nat} (ho : o + n ≤ 28) (j : Nat) (u : Value) (hj : (ints ((c.drop o).take n))[j]? = some u) : w.cell? ⟨N, o + j, none⟩ = some u := by
  have hl := h.len
  simp only [ints, List.getElem?_map, List.getElem?_take, List.getElem?_drop] at hj
  by_cases hjn : j < n
  · rw [if_pos hjn] at hj
    have hlt : o + j < c.length := by omega
    rw [List.getElem?_eq_getElem hlt] at hj
    have := h.at' (i := o + j) (by omega)
    rw [this]
    simp only [Option.map_some, Option.some.injEq] at hj
    rw [← hj]
    simp [g, List.getD_eq_getElem?_getD, List.getElem?_eq_getElem hlt]
  · rw [if_neg hjn] at hj
    cases hj

set_option maxRecDepth 100000 in
set_option maxHeartbeats 4000000 in
theorem row_walk (sw st : Value) (c : List Int) (bad : Bool) (p : Lt) (w : World) (h : PHas w sw st p) (hc : c.length = 28) (h8 : p.words.length ≤ 8) (hT : p.threads.length ≤ 4) :
    Calls Try.prog 37 #[.agg (stA c bad), .agg #[sw, st]] w fun e w' => ∃ v', e = .returned v' ∧ OwnS w' w.heap.size 1 v' (row p ⟨c, bad⟩).length (ints (row p ⟨c, bad⟩)) ∧ Below w.heap.size w w' := by
  obtain ⟨at0, ct, rfl⟩ := h.threads.shape
  obtain ⟨aw, cw, rfl⟩ := h.words_shape
  have hR := RSP.begin (bad := bad) h hc
  have H0 := Lib.hid h
  clear h
  have hone := stA_one c bad
  generalize hA : stA c bad = A at hone hR ⊢
  have HA := Lib.hid hA
  clear hA
  go_enter Try.func37, Try.ntmps37
  have h8i : (p.words.length : Int) ≤ 8 := by omega
  go_wp2_with fail
  generalize hW : (w.alloc (.cells A 70)).alloc (.cells #[.slice aw p.words.length cw, .slice at0 p.threads.length ct] 25) = w0 at hR ⊢
  clear hW
  generalize hN : w.heap.size = N at hR ⊢
  have HN := Lib.hid hN
  clear hN
  have hlen : (c.take p.words.length).length = p.words.length := by rw [List.length_take]; omega
  have hcl := clone_walk N 0 8 (c.take p.words.length) w0 (fun j u hj => regs_cells hR.s (o := 0) (n := p.words.length) (by omega) j u (by simpa using hj)) (by omega)
  rw [hlen] at hcl
  refine hcl.mono ?_
  rintro e w1 ⟨v0, rfl, hv0, hb0⟩
  have hR1 := hR.more hb0
  have hBN : N + 2 ≤ w0.heap.size := by have := hR.box; rw [Array.getElem?_eq_some_iff] at this; exact this.1
  have hBs : w0.heap.size ≤ w1.heap.size := hb0.size
  generalize w0.heap.size = B at hv0 hBN hBs
  clear hR hcl hb0
  have hO1 : OwnS w1 B 1 v0 (rowTo p c 0).length (ints (rowTo p c 0)) := by
    have e0 : rowTo p c 0 = c.take p.words.length := by simp [rowTo]
    rw [e0, hlen]; exact hv0
  clear hv0
  have hi : Try.prog.info? 3 = some Try.t3 := by kernel_rfl
  have HH := Lib.hid hi
  clear hi
  have hx1 := hR1.cell1
  go_wp2_with fail
  clear hx1
  go_loopw [5, 16] (fun ov kv wr => ∃ k : Nat, k ≤ p.threads.length ∧ kv = .int .i64 k ∧ RSP w wr N c bad (.slice aw p.words.length cw) (.slice at0 p.threads.length ct) p ∧ OwnS wr B 1 ov (rowTo p c k).length (ints (rowTo p c k)) ∧ B ≤ wr.heap.size) (fun _ kv _ => p.threads.length - (intOf kv).toNat)
  case atStart => exact ⟨0, by omega, rfl, hR1, hO1, hBs⟩
  case round =>
    clear hR1 hO1 hBs
    obtain ⟨k, hk, rfl, hR, hO, hBs⟩ := hrel
    by_cases hlt : k < p.threads.length
    · have hk4 : (k : Int) < 4 := by omega
      have hnl : N < wr.heap.size := hR.s.lt
      have hnews := regs_cells hR.s (o := 12 + k * 4) (n := 4) (by omega)
      have hr4 : (ints ((c.drop (12 + k * 4)).take 4)).length = 4 * 1 := by simp [ints]; omega
      have hlk := rowTo_len (p := p) hc h8 (k := k) (by omega)
      have HR := Lib.hid hR
      clear hR
      go_wp2_with (at_builtin; refine wpList_append_ownS _ rfl (.tmp 19) (.tmp 23) 22 rfl B 3 Try.t3 (.int .i64 0) 1 8 Try.underlying22 HH.out rfl rfl rfl rfl (by decide) _ (rowTo p c k).length (ints (rowTo p c k)) rfl hO ⟨N, 12 + k * 4, none⟩ 4 4 (ints ((c.drop (12 + k * 4)).take 4)) rfl hr4 (fun j u hj => by rw [Addr.add_lit]; exact hnews j u hj) (ints_one _) (by unfold maxLen; omega) (by omega) hBs ?_; intro v' w' hv' hg' hob'; have HR' := Lib.hid (HR.out.grown H0.out HN.out hg' (fun j hj => by have := (hO.blk j hj).1; omega)); have hBs' := Nat.le_trans hBs hg'.size)
      go_roundw
      case rel =>
        refine ⟨k + 1, by omega, by go_num, HR'.out, ?_, hBs'⟩
        have e1 : rowTo p c (k + 1) = rowTo p c k ++ (c.drop (12 + k * 4)).take 4 := by rw [rowTo_succ, Nat.mul_comm 4 k]
        rw [e1, ints_append, List.length_append, show ((c.drop (12 + k * 4)).take 4).length = 4 by simpa [ints] using hr4]
        exact hv'
      case measure => simp [intOf]; omega
    · obtain rfl : k = p.threads.length := by omega
      go_wp2
      go_ret
      exact ⟨_, rfl, by
        rw [row_to]
        obtain ⟨te, h1, h2⟩ := hO
        refine ⟨te, h1, ?_⟩
        rcases h2 with hh | ⟨g', cap, cur, q1, q2, q3⟩
        · exact .inl hh
        · exact .inr ⟨g', cap, cur, q1, by rw [HN.out]; omega, q3⟩, by rw [HN.out]; exact hR.below⟩
end Go.Proofs.Ytmpgjnindbklaaa
