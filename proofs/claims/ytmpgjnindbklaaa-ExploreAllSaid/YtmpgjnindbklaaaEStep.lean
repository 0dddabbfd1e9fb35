import Derived.Test.YtmpgjnindbklaaaEOwn
import Derived.Test.YtmpgjnindbklaaaERef2
namespace Go.Proofs.Ytmpgjnindbklaaa
open Go.RowKit BA Ex

/-- A state as a value. -/
def stA (c : List Int) (bad : Bool) : Array Value := (ints c ++ [Value.bool bad]).toArray
theorem stA_size {c : List Int} (h : c.length = 28) (bad : Bool) : (stA c bad).size = 29 := by simp [stA, ints, h]

/-- What is at hand within a step. -/
structure RSt (w wr : World) (N : Nat) (A : Array Value) (sw st : Value) (p : Lt) : Prop where
  below : Below N w wr
  s : wr.heap[N]? = some (.cells A 70 (0, 0))
  box : wr.heap[N + 1]? = some (.cells #[sw, st] 25 (0, 0))
  out : ∃ Z, wr.heap[N + 2]? = some (.cells Z 70 (0, 0)) ∧ Z.size = 29
  has : PHas wr sw st p

theorem RSt.begin {w : World} {sw st : Value} {p : Lt} (h : PHas w sw st p) (A Z : Array Value) (hZ : Z.size = 29) :
    RSt w (((w.alloc (.cells A 70 (0, 0))).alloc (.cells #[sw, st] 25 (0, 0))).alloc (.cells Z 70 (0, 0))) w.heap.size A sw st p := by
  have hb : Below w.heap.size w (((w.alloc (.cells A 70 (0, 0))).alloc (.cells #[sw, st] 25 (0, 0))).alloc (.cells Z 70 (0, 0))) :=
    (((Below.refl _ _).alloc (Nat.le_refl _) _).alloc (by simp) _).alloc (by simp; omega) _
  refine ⟨hb, ?_, ?_, ⟨Z, ?_, hZ⟩, h.below hb⟩
  · rw [Below.heap_alloc _ _ _ (by simp; omega), Below.heap_alloc _ _ _ (by simp), heap_alloc_new]
  · rw [Below.heap_alloc _ _ _ (by simp)]
    simpa using heap_alloc_new (w.alloc (.cells A 70 (0, 0))) (.cells #[sw, st] 25 (0, 0))
  · simpa using heap_alloc_new ((w.alloc (.cells A 70 (0, 0))).alloc (.cells #[sw, st] 25 (0, 0))) (.cells Z 70 (0, 0))

theorem info_state : (Try.prog.info? 70).map (·.size) = some 29 := by kernel_rfl
theorem stA_one (c : List Int) (bad : Bool) : (stA c bad).all (·.oneCell') = true := by
  rw [Array.all_eq_true_iff_forall_mem]
  intro x hx
  simp only [stA, ints, List.mem_toArray, List.mem_append, List.mem_map, List.mem_singleton] at hx
  rcases hx with ⟨a, _, rfl⟩ | rfl <;> rfl

/-- A struct in a cell's row and a plain result. -/
theorem results_row_tmp {P : Program} {fn : Func} {p u : Tmp} {ty : TypeId} (h : fn.results = #[.cell p ty, .tmp u]) (tmps : Array Value) (w : World) (g' : Nat) (t : TypeId) (cs : Array Value) (fr : Nat × Nat) (d : TypeDesc)
    (hp : tmps.getD p undef = .pointer (some ⟨g', 0, none⟩)) (hg : w.heap[g']? = some (.cells cs t fr))
    (hu : P.underlying ty = some d) (hd : (match d with | .struct _ | .array _ _ => true | _ => false) = true) (hi : (P.info? ty).map (·.size) = some cs.size) :
    (results fn tmps).run P w = .ok (.tuple #[.agg cs, tmps.getD u undef]) w := by
  rw [results_cell_tmp h, hp]
  simp [asAddr, run_loadVar_row w g' t ty cs fr d hg hu hd hi]

theorem heap_setRow {w : World} {g' : Nat} {cs old : Array Value} {t : TypeId} {fr : Nat × Nat} (h : w.heap[g']? = some (.cells old t fr)) : (w.setRow g' cs).heap[g']? = some (.cells cs t fr) := by
  simp [World.setRow, Array.getElem?_modify, h]
theorem below_setRow {B : Nat} {a w : World} (h : Below B a w) {g' : Nat} (cs : Array Value) (hg : B ≤ g') : Below B a (w.setRow g' cs) :=
  h.trans ⟨rfl, rfl, rfl, by simp [World.setRow], fun k hk => by simp [World.setRow, Array.getElem?_modify, show g' ≠ k by omega]⟩
theorem stA_at {c : List Int} (h : c.length = 28) (bad : Bool) (i : Nat) (hi : i < 28) : (stA c bad)[i]? = some (.int .i64 (g c i)) := by
  simp [stA, ints, g, h, hi, List.getElem?_append]

-- STEPS
set_option maxRecDepth 100000 in
set_option maxHeartbeats 4000000 in
theorem step_bad (sw st : Value) (c : List Int) (k : Int) (p : Lt) (w : World) (h : PHas w sw st p) (hc : c.length = 28)  :
    Calls Try.prog 44 #[.agg (stA c true), .agg #[sw, st], .int .i64 k] w fun e w' =>
      e = .returned (.tuple #[.agg (stA c true), .bool false]) ∧ Below w.heap.size w w' := by
  have hs := stA_size hc true
  have hb : (stA c true)[28]? = some (.bool true) := by simp [stA, ints, hc]
  have hat : ∀ i, i < 28 → (stA c true)[i]? = some (.int .i64 (g c i)) := stA_at hc true
  have hone := stA_one c true
  generalize stA c true = A at hs hb hone hat ⊢
  have hR := RSt.begin h A #[Value.int .i64 0, Value.int .i64 0, Value.int .i64 0, Value.int .i64 0, Value.int .i64 0, Value.int .i64 0, Value.int .i64 0, Value.int .i64 0, Value.int .i64 0, Value.int .i64 0, Value.int .i64 0, Value.int .i64 0, Value.int .i64 0, Value.int .i64 0, Value.int .i64 0, Value.int .i64 0, Value.int .i64 0, Value.int .i64 0, Value.int .i64 0, Value.int .i64 0, Value.int .i64 0, Value.int .i64 0, Value.int .i64 0, Value.int .i64 0, Value.int .i64 0, Value.int .i64 0, Value.int .i64 0, Value.int .i64 0, Value.bool false] rfl
  clear h
  go_enter Try.func44, Try.ntmps44
  go_wp2
  generalize hW : ((w.alloc (.cells A 70)).alloc (.cells #[sw, st] 25)).alloc (.cells #[Value.int .i64 0, Value.int .i64 0, Value.int .i64 0, Value.int .i64 0, Value.int .i64 0, Value.int .i64 0, Value.int .i64 0, Value.int .i64 0, Value.int .i64 0, Value.int .i64 0, Value.int .i64 0, Value.int .i64 0, Value.int .i64 0, Value.int .i64 0, Value.int .i64 0, Value.int .i64 0, Value.int .i64 0, Value.int .i64 0, Value.int .i64 0, Value.int .i64 0, Value.int .i64 0, Value.int .i64 0, Value.int .i64 0, Value.int .i64 0, Value.int .i64 0, Value.int .i64 0, Value.int .i64 0, Value.int .i64 0, Value.bool false] 70) = w3 at hR ⊢
  clear hW
  generalize hN : w.heap.size = N at hR ⊢
  have h28 : w3.cell? ⟨N, 28, none⟩ = some (.bool true) := by simp [World.cell?, hR.s, hb]
  have hx1 : w3.cell? ⟨N + 1, 1, none⟩ = some (st) := by simp [World.cell?, hR.box]
  have HA := Lib.hid hat
  clear hat
  obtain ⟨Z, hZ, hZs⟩ := hR.out
  go_region
  go_wp2_with (first
    | refine wpList_load_row rfl 70 (.tmp 3) rfl N rfl 70 A (0, 0) _ hR.s Try.underlying70 rfl (by rw [hs]; exact info_state) ?_
    | refine wpList_store_row rfl 70 (.tmp 6) (.tmp 37) rfl (N + 2) A rfl rfl 70 Z hZ (by rw [hs]; exact info_state) (by rw [hs, hZs]) hone ?_)
  refine bodyPost_ret (results_row_tmp rfl _ _ (N + 2) 70 A (0, 0) _ rfl (heap_setRow hZ) Try.underlying70 rfl (by rw [hs]; exact info_state)) rfl ?_
  exact ⟨rfl, by rw [hN]; exact below_setRow hR.below.drew _ (by omega)⟩

set_option maxRecDepth 100000 in
set_option maxHeartbeats 4000000 in
theorem step_low (sw st : Value) (c : List Int) (k : Int) (p : Lt) (w : World) (h : PHas w sw st p) (hc : c.length = 28) (hk : k < 0) :
    Calls Try.prog 44 #[.agg (stA c false), .agg #[sw, st], .int .i64 k] w fun e w' =>
      e = .returned (.tuple #[.agg (stA c false), .bool false]) ∧ Below w.heap.size w w' := by
  have hs := stA_size hc false
  have hb : (stA c false)[28]? = some (.bool false) := by simp [stA, ints, hc]
  have hat : ∀ i, i < 28 → (stA c false)[i]? = some (.int .i64 (g c i)) := stA_at hc false
  have hone := stA_one c false
  generalize stA c false = A at hs hb hone hat ⊢
  have hR := RSt.begin h A #[Value.int .i64 0, Value.int .i64 0, Value.int .i64 0, Value.int .i64 0, Value.int .i64 0, Value.int .i64 0, Value.int .i64 0, Value.int .i64 0, Value.int .i64 0, Value.int .i64 0, Value.int .i64 0, Value.int .i64 0, Value.int .i64 0, Value.int .i64 0, Value.int .i64 0, Value.int .i64 0, Value.int .i64 0, Value.int .i64 0, Value.int .i64 0, Value.int .i64 0, Value.int .i64 0, Value.int .i64 0, Value.int .i64 0, Value.int .i64 0, Value.int .i64 0, Value.int .i64 0, Value.int .i64 0, Value.int .i64 0, Value.bool false] rfl
  clear h
  go_enter Try.func44, Try.ntmps44
  go_wp2
  generalize hW : ((w.alloc (.cells A 70)).alloc (.cells #[sw, st] 25)).alloc (.cells #[Value.int .i64 0, Value.int .i64 0, Value.int .i64 0, Value.int .i64 0, Value.int .i64 0, Value.int .i64 0, Value.int .i64 0, Value.int .i64 0, Value.int .i64 0, Value.int .i64 0, Value.int .i64 0, Value.int .i64 0, Value.int .i64 0, Value.int .i64 0, Value.int .i64 0, Value.int .i64 0, Value.int .i64 0, Value.int .i64 0, Value.int .i64 0, Value.int .i64 0, Value.int .i64 0, Value.int .i64 0, Value.int .i64 0, Value.int .i64 0, Value.int .i64 0, Value.int .i64 0, Value.int .i64 0, Value.int .i64 0, Value.bool false] 70) = w3 at hR ⊢
  clear hW
  generalize hN : w.heap.size = N at hR ⊢
  have h28 : w3.cell? ⟨N, 28, none⟩ = some (.bool false) := by simp [World.cell?, hR.s, hb]
  have hx1 : w3.cell? ⟨N + 1, 1, none⟩ = some (st) := by simp [World.cell?, hR.box]
  have HA := Lib.hid hat
  clear hat
  obtain ⟨Z, hZ, hZs⟩ := hR.out
  go_region
  go_wp2_with (first
    | refine wpList_load_row rfl 70 (.tmp 3) rfl N rfl 70 A (0, 0) _ hR.s Try.underlying70 rfl (by rw [hs]; exact info_state) ?_
    | refine wpList_store_row rfl 70 (.tmp 6) (.tmp 37) rfl (N + 2) A rfl rfl 70 Z hZ (by rw [hs]; exact info_state) (by rw [hs, hZs]) hone ?_)
  refine bodyPost_ret (results_row_tmp rfl _ _ (N + 2) 70 A (0, 0) _ rfl (heap_setRow hZ) Try.underlying70 rfl (by rw [hs]; exact info_state)) rfl ?_
  exact ⟨rfl, by rw [hN]; exact below_setRow hR.below.drew _ (by omega)⟩

set_option maxRecDepth 100000 in
set_option maxHeartbeats 4000000 in
theorem step_high (sw st : Value) (c : List Int) (k : Int) (p : Lt) (w : World) (h : PHas w sw st p) (hc : c.length = 28) (h0 : 0 ≤ k) (hk : (p.threads.length : Int) ≤ k) :
    Calls Try.prog 44 #[.agg (stA c false), .agg #[sw, st], .int .i64 k] w fun e w' =>
      e = .returned (.tuple #[.agg (stA c false), .bool false]) ∧ Below w.heap.size w w' := by
  have hs := stA_size hc false
  have hb : (stA c false)[28]? = some (.bool false) := by simp [stA, ints, hc]
  have hat : ∀ i, i < 28 → (stA c false)[i]? = some (.int .i64 (g c i)) := stA_at hc false
  have hone := stA_one c false
  obtain ⟨ta, tc, rfl⟩ := h.threads.shape
  generalize stA c false = A at hs hb hone hat ⊢
  have hR := RSt.begin h A #[Value.int .i64 0, Value.int .i64 0, Value.int .i64 0, Value.int .i64 0, Value.int .i64 0, Value.int .i64 0, Value.int .i64 0, Value.int .i64 0, Value.int .i64 0, Value.int .i64 0, Value.int .i64 0, Value.int .i64 0, Value.int .i64 0, Value.int .i64 0, Value.int .i64 0, Value.int .i64 0, Value.int .i64 0, Value.int .i64 0, Value.int .i64 0, Value.int .i64 0, Value.int .i64 0, Value.int .i64 0, Value.int .i64 0, Value.int .i64 0, Value.int .i64 0, Value.int .i64 0, Value.int .i64 0, Value.int .i64 0, Value.bool false] rfl
  clear h
  go_enter Try.func44, Try.ntmps44
  go_wp2
  generalize hW : ((w.alloc (.cells A 70)).alloc (.cells #[sw, .slice ta p.threads.length tc] 25)).alloc (.cells #[Value.int .i64 0, Value.int .i64 0, Value.int .i64 0, Value.int .i64 0, Value.int .i64 0, Value.int .i64 0, Value.int .i64 0, Value.int .i64 0, Value.int .i64 0, Value.int .i64 0, Value.int .i64 0, Value.int .i64 0, Value.int .i64 0, Value.int .i64 0, Value.int .i64 0, Value.int .i64 0, Value.int .i64 0, Value.int .i64 0, Value.int .i64 0, Value.int .i64 0, Value.int .i64 0, Value.int .i64 0, Value.int .i64 0, Value.int .i64 0, Value.int .i64 0, Value.int .i64 0, Value.int .i64 0, Value.int .i64 0, Value.bool false] 70) = w3 at hR ⊢
  clear hW
  generalize hN : w.heap.size = N at hR ⊢
  have h28 : w3.cell? ⟨N, 28, none⟩ = some (.bool false) := by simp [World.cell?, hR.s, hb]
  have hx1 : w3.cell? ⟨N + 1, 1, none⟩ = some (.slice ta p.threads.length tc) := by simp [World.cell?, hR.box]
  have e1 : decide (k < 0) = false := decide_eq_false (by omega)
  have e2 : decide ((p.threads.length : Int) ≤ k) = true := decide_eq_true hk
  clear h0 hk
  have HA := Lib.hid hat
  clear hat
  obtain ⟨Z, hZ, hZs⟩ := hR.out
  go_region
  go_wp2_with (first
    | refine wpList_load_row rfl 70 (.tmp 3) rfl N rfl 70 A (0, 0) _ hR.s Try.underlying70 rfl (by rw [hs]; exact info_state) ?_
    | refine wpList_store_row rfl 70 (.tmp 6) (.tmp 37) rfl (N + 2) A rfl rfl 70 Z hZ (by rw [hs]; exact info_state) (by rw [hs, hZs]) hone ?_)
  refine bodyPost_ret (results_row_tmp rfl _ _ (N + 2) 70 A (0, 0) _ rfl (heap_setRow hZ) Try.underlying70 rfl (by rw [hs]; exact info_state)) rfl ?_
  exact ⟨rfl, by rw [hN]; exact below_setRow hR.below.drew _ (by omega)⟩

set_option maxRecDepth 100000 in
set_option maxHeartbeats 4000000 in
theorem step_over (sw st : Value) (c : List Int) (k : Nat) (p : Lt) (w : World) (h : PHas w sw st p) (hc : c.length = 28) (hk : k < p.threads.length) (hT : p.threads.length ≤ 4) (hov : ((p.threads.getD k []).length : Int) ≤ g c (8 + k)) :
    Calls Try.prog 44 #[.agg (stA c false), .agg #[sw, st], .int .i64 k] w fun e w' =>
      e = .returned (.tuple #[.agg (stA c false), .bool false]) ∧ Below w.heap.size w w' := by
  have hs := stA_size hc false
  have hb : (stA c false)[28]? = some (.bool false) := by simp [stA, ints, hc]
  have hat : ∀ i, i < 28 → (stA c false)[i]? = some (.int .i64 (g c i)) := stA_at hc false
  have hone := stA_one c false
  obtain ⟨ta, tc, rfl⟩ := h.threads.shape
  generalize stA c false = A at hs hb hone hat ⊢
  have hR := RSt.begin h A #[Value.int .i64 0, Value.int .i64 0, Value.int .i64 0, Value.int .i64 0, Value.int .i64 0, Value.int .i64 0, Value.int .i64 0, Value.int .i64 0, Value.int .i64 0, Value.int .i64 0, Value.int .i64 0, Value.int .i64 0, Value.int .i64 0, Value.int .i64 0, Value.int .i64 0, Value.int .i64 0, Value.int .i64 0, Value.int .i64 0, Value.int .i64 0, Value.int .i64 0, Value.int .i64 0, Value.int .i64 0, Value.int .i64 0, Value.int .i64 0, Value.int .i64 0, Value.int .i64 0, Value.int .i64 0, Value.int .i64 0, Value.bool false] rfl
  clear h
  go_enter Try.func44, Try.ntmps44
  go_wp2
  generalize hW : ((w.alloc (.cells A 70)).alloc (.cells #[sw, .slice ta p.threads.length tc] 25)).alloc (.cells #[Value.int .i64 0, Value.int .i64 0, Value.int .i64 0, Value.int .i64 0, Value.int .i64 0, Value.int .i64 0, Value.int .i64 0, Value.int .i64 0, Value.int .i64 0, Value.int .i64 0, Value.int .i64 0, Value.int .i64 0, Value.int .i64 0, Value.int .i64 0, Value.int .i64 0, Value.int .i64 0, Value.int .i64 0, Value.int .i64 0, Value.int .i64 0, Value.int .i64 0, Value.int .i64 0, Value.int .i64 0, Value.int .i64 0, Value.int .i64 0, Value.int .i64 0, Value.int .i64 0, Value.int .i64 0, Value.int .i64 0, Value.bool false] 70) = w3 at hR ⊢
  clear hW
  generalize hN : w.heap.size = N at hR ⊢
  have h28 : w3.cell? ⟨N, 28, none⟩ = some (.bool false) := by simp [World.cell?, hR.s, hb]
  have hx1 : w3.cell? ⟨N + 1, 1, none⟩ = some (.slice ta p.threads.length tc) := by simp [World.cell?, hR.box]
  have e1 : decide ((k : Int) < 0) = false := decide_eq_false (by omega)
  have e2 : decide ((p.threads.length : Int) ≤ (k : Int)) = false := decide_eq_false (by omega)
  have e2' : decide (p.threads.length ≤ k) = false := decide_eq_false (by omega)
  have hc8 : w3.cell? ⟨N, 8 + k, none⟩ = some (.int .i64 (g c (8 + k))) := by simp [World.cell?, hR.s, hat (8 + k) (by omega)]
  obtain ⟨b, o, c', tv, hv, hbl, hct, hL⟩ := hR.has.threads.at' hk
  cases hv
  obtain ⟨al, cl, rfl⟩ := hL.shape
  generalize p.threads.getD k [] = tt at hL hct hov
  have e3 : decide ((tt.length : Int) ≤ g c (8 + k)) = true := decide_eq_true hov
  clear hov
  have HA := Lib.hid hat
  clear hat
  obtain ⟨Z, hZ, hZs⟩ := hR.out
  go_region
  go_wp2_with (first
    | refine wpList_load_row rfl 70 (.tmp 3) rfl N rfl 70 A (0, 0) _ hR.s Try.underlying70 rfl (by rw [hs]; exact info_state) ?_
    | refine wpList_store_row rfl 70 (.tmp 6) (.tmp 37) rfl (N + 2) A rfl rfl 70 Z hZ (by rw [hs]; exact info_state) (by rw [hs, hZs]) hone ?_)
  refine bodyPost_ret (results_row_tmp rfl _ _ (N + 2) 70 A (0, 0) _ rfl (heap_setRow hZ) Try.underlying70 rfl (by rw [hs]; exact info_state)) rfl ?_
  exact ⟨rfl, by rw [hN]; exact below_setRow hR.below.drew _ (by omega)⟩

end Go.Proofs.Ytmpgjnindbklaaa
