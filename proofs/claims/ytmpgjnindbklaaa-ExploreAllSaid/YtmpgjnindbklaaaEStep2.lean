import Derived.Test.YtmpgjnindbklaaaEStep
import Derived.Deep.CutBlock
import Derived.BigRegion
import Derived.Deep.RegionHeld3
namespace Go.Proofs.Ytmpgjnindbklaaa
open Go.RowKit BA Ex

/-- What is at hand when a line's own part is done. -/
structure RTail (w wr : World) (N M : Nat) (c : List Int) (bad : Bool) (sw st : Value) (p : Lt) (x : Ln) : Prop where
  below : Below N w wr
  s : Sta wr N c bad
  out : ∃ Z, wr.heap[N + 2]? = some (.cells Z 70 (0, 0)) ∧ Z.size = 29
  line : wr.heap[M]? = some (.cells #[.int .i64 x.op, .int .i64 x.a, .int .i64 x.b, .int .i64 x.c] 55 (0, 0))
  nM : N + 2 < M

theorem RTail.kept {w wr w' : World} {N M : Nat} {c c' : List Int} {bad bad' : Bool} {sw st : Value} {p : Lt} {x : Ln} (h : RTail w wr N M c bad sw st p x) (hg : wr.grownBy w' (some N)) (hs : Sta w' N c' bad') : RTail w w' N M c' bad' sw st p x := by
  have hM : M < wr.heap.size := by have := h.line; rw [Array.getElem?_eq_some_iff] at this; exact this.1
  have hn := h.nM
  obtain ⟨Z, hZ, hZs⟩ := h.out
  refine ⟨h.below.grown hg (by have := h.s.lt; omega) (fun k hk => by cases hk; exact Nat.le_refl _), hs, ⟨Z, (hg.block (N + 2) (by omega) (by simp)).trans hZ, hZs⟩, (hg.block M hM (by simp; omega)).trans h.line, h.nM⟩

theorem Sta.setb {w : World} {R : Nat} {c : List Int} {bad : Bool} (h : Sta w R c bad) (b : Bool) : Sta (w.setCell ⟨R, 28, none⟩ (.bool b)) R c b := by
  have hl := h.len
  refine ⟨hl, ?_⟩
  rw [cells_set h.blk]
  congr 2
  apply Array.toList_inj.1
  simp only [Array.toList_setIfInBounds]
  rw [List.set_append_right _ _ (by simp [ints, hl])]
  simp [ints, hl]

theorem RTail.drew {w wr : World} {N M : Nat} {c : List Int} {bad : Bool} {sw st : Value} {p : Lt} {x : Ln} (h : RTail w wr N M c bad sw st p x) : RTail w wr.drew N M c bad sw st p x :=
  h.kept (grown_drew (World.grownBy.refl _ _)) (h.s.kept (grown_drew (World.grownBy.refl _ none)) (by simp))

theorem RTail.base {w w3 w4 : World} {N : Nat} {A : Array Value} {c1 : List Int} {sw st : Value} {p : Lt} (hR : RSt w w3 N A sw st p) (hg : w3.grownBy w4 (some N)) (hz : w4.heap.size = w3.heap.size) (hs : Sta w4 N c1 false) (x : Ln) :
    RTail w (w4.alloc (.cells #[.int .i64 x.op, .int .i64 x.a, .int .i64 x.b, .int .i64 x.c] 55 (0, 0))) N w3.heap.size c1 false sw st p x := by
  obtain ⟨Z, hZ, hZs⟩ := hR.out
  have hlt : N + 2 < w3.heap.size := by rw [Array.getElem?_eq_some_iff] at hZ; exact hZ.1
  refine ⟨(hR.below.grown hg (by omega) (fun k hk => by cases hk; exact Nat.le_refl _)).alloc (by omega) _, hs.kept (World.grownBy_alloc _ _ none) (by simp), ⟨Z, ?_, hZs⟩, by rw [← hz]; exact heap_alloc_new _ _, by omega⟩
  rw [Below.heap_alloc _ _ _ (by omega)]
  exact (hg.block (N + 2) (by omega) (by simp)).trans hZ

/-- A thread's step, when it is at this line. -/
def stepped (c : List Int) (k : Nat) (x : Ln) (i : Int) : St :=
  ⟨(own (shared c (12 + k * 4) x) (12 + k * 4) x i).1.set (8 + k) (own (shared c (12 + k * 4) x) (12 + k * 4) x i).2.1, (own (shared c (12 + k * 4) x) (12 + k * 4) x i).2.2⟩

theorem RTail.done {w wr : World} {N M : Nat} {c : List Int} {bad : Bool} {sw st : Value} {p : Lt} {x : Ln} (h : RTail w wr N M c bad sw st p x) {k : Nat} (hk : k < 4) (v : Int) (b : Bool) :
    RTail w ((wr.setCell ⟨N, 8 + k, none⟩ (.int .i64 v)).setCell ⟨N, 28, none⟩ (.bool b)) N M (c.set (8 + k) v) b sw st p x :=
  h.kept (grown_trans (grown_set _ _ _ _) (grown_set _ _ _ _)) ((h.s.set (by omega) v).setb b)

theorem own_walk' (R r : Nat) (c : List Int) (bad : Bool) (x : Ln) (n lines : Nat) (hx : lineOK n lines x = true) (at' : Int) (w : World) (h : Sta w R c bad) (hr : r + 4 ≤ 28) :
    Calls Try.prog 55 #[.pointer (some ⟨R, r, none⟩), .agg #[.int .i64 x.op, .int .i64 x.a, .int .i64 x.b, .int .i64 x.c], .int .i64 at'] w fun e w' =>
      ∃ v b c2, e = .returned (.tuple #[.int .i64 v, .bool b]) ∧ Hid (v = (own c r x at').2.1 ∧ b = (own c r x at').2.2 ∧ c2 = (own c r x at').1) ∧ Sta w' R c2 bad ∧ w.grownBy w' (some R) :=
  (own_walk R r c bad x n lines hx at' w h hr).mono fun _ _ ⟨he, hs, hg⟩ => ⟨_, _, _, he, Lib.hid ⟨rfl, rfl, rfl⟩, hs, hg⟩

theorem RTail.l0 {w wr : World} {N M : Nat} {c : List Int} {bad : Bool} {sw st : Value} {p : Lt} {x : Ln} (h : RTail w wr N M c bad sw st p x) : wr.cell? ⟨M, 0, none⟩ = some (.int .i64 x.op) := by simp [World.cell?, h.line]
theorem RTail.l1 {w wr : World} {N M : Nat} {c : List Int} {bad : Bool} {sw st : Value} {p : Lt} {x : Ln} (h : RTail w wr N M c bad sw st p x) : wr.cell? ⟨M, 1, none⟩ = some (.int .i64 x.a) := by simp [World.cell?, h.line]
theorem RTail.l2 {w wr : World} {N M : Nat} {c : List Int} {bad : Bool} {sw st : Value} {p : Lt} {x : Ln} (h : RTail w wr N M c bad sw st p x) : wr.cell? ⟨M, 2, none⟩ = some (.int .i64 x.b) := by simp [World.cell?, h.line]
theorem RTail.l3 {w wr : World} {N M : Nat} {c : List Int} {bad : Bool} {sw st : Value} {p : Lt} {x : Ln} (h : RTail w wr N M c bad sw st p x) : wr.cell? ⟨M, 3, none⟩ = some (.int .i64 x.c) := by simp [World.cell?, h.line]

theorem g_set_ne {c : List Int} {j m : Nat} (v : Int) (h : j ≠ m) : g (c.set j v) m = g c m := by
  simp [g, List.getD_eq_getElem?_getD, h]

theorem RTail.set {w wr : World} {N M : Nat} {c : List Int} {bad : Bool} {sw st : Value} {p : Lt} {x : Ln} (h : RTail w wr N M c bad sw st p x) {i : Nat} (hi : i < 28) (v : Int) : RTail w (wr.setCell ⟨N, i, none⟩ (.int .i64 v)) N M (c.set i v) bad sw st p x :=
  h.kept (grown_set _ _ _ _) (h.s.set hi v)
theorem RTail.cell {w wr : World} {N M : Nat} {c : List Int} {bad : Bool} {sw st : Value} {p : Lt} {x : Ln} (h : RTail w wr N M c bad sw st p x) {i : Nat} (hi : i < 28) : wr.cell? ⟨N, i, none⟩ = some (.int .i64 (g c i)) := h.s.at' hi

theorem wrap_w64 (n : Int) : IntKind.i64.wrap n = w64 n := by
  simp only [IntKind.wrap, IntKind.bits, IntKind.signed, w64, RowKit.wrap64]
  simp
  split <;> omega

theorem shared_at {c : List Int} {n lines k : Nat} {x : Ln} (hok : lineOK n lines x = true) (hn : n ≤ 8) (hk : k < 4) : g (shared c (12 + k * 4) x) (8 + k) = g c (8 + k) := by
  obtain ⟨op, a, b, k'⟩ := x
  unfold lineOK at hok
  unfold shared
  simp only [reg, word, place] at hok
  repeat' split
  all_goals (simp_all; try (repeat rw [g_set_ne _ (by omega)]))

set_option maxRecDepth 100000 in
set_option maxHeartbeats 4000000 in
theorem step_can (sw st : Value) (c : List Int) (k i : Nat) (x : Ln) (p : Lt) (w : World) (h : PHas w sw st p) (hc : c.length = 28) (hk : k < p.threads.length) (hT : p.threads.length ≤ 4) (hi : i < (p.threads.getD k []).length)
    (hln : (p.threads.getD k []).getD i default = x) (hgi : g c (8 + k) = i) (hn8 : p.words.length ≤ 8) (hok : lineOK p.words.length (p.threads.getD k []).length x = true) :
    Calls Try.prog 44 #[.agg (stA c false), .agg #[sw, st], .int .i64 k] w fun e w' =>
      e = .returned (.tuple #[.agg (stA (stepped c k x i).c (stepped c k x i).bad), .bool true]) ∧ Below w.heap.size w w' := by
  have hs := stA_size hc false
  have hb : (stA c false)[28]? = some (.bool false) := by simp [stA, ints, hc]
  have hat : ∀ i, i < 28 → (stA c false)[i]? = some (.int .i64 (g c i)) := stA_at hc false
  obtain ⟨ta, tc, rfl⟩ := h.threads.shape
  generalize hAE : stA c false = A at hs hb hat
  have HAE := Lib.hid hAE
  clear hAE
  have hR := RSt.begin h A #[Value.int .i64 0, Value.int .i64 0, Value.int .i64 0, Value.int .i64 0, Value.int .i64 0, Value.int .i64 0, Value.int .i64 0, Value.int .i64 0, Value.int .i64 0, Value.int .i64 0, Value.int .i64 0, Value.int .i64 0, Value.int .i64 0, Value.int .i64 0, Value.int .i64 0, Value.int .i64 0, Value.int .i64 0, Value.int .i64 0, Value.int .i64 0, Value.int .i64 0, Value.int .i64 0, Value.int .i64 0, Value.int .i64 0, Value.int .i64 0, Value.int .i64 0, Value.int .i64 0, Value.int .i64 0, Value.int .i64 0, Value.bool false] rfl
  clear h
  obtain ⟨op, a, b, k'⟩ := x
  go_enter Try.func44, Try.ntmps44
  go_wp2
  generalize hW : ((w.alloc (.cells A 70)).alloc (.cells #[sw, .slice ta p.threads.length tc] 25)).alloc (.cells #[Value.int .i64 0, Value.int .i64 0, Value.int .i64 0, Value.int .i64 0, Value.int .i64 0, Value.int .i64 0, Value.int .i64 0, Value.int .i64 0, Value.int .i64 0, Value.int .i64 0, Value.int .i64 0, Value.int .i64 0, Value.int .i64 0, Value.int .i64 0, Value.int .i64 0, Value.int .i64 0, Value.int .i64 0, Value.int .i64 0, Value.int .i64 0, Value.int .i64 0, Value.int .i64 0, Value.int .i64 0, Value.int .i64 0, Value.int .i64 0, Value.int .i64 0, Value.int .i64 0, Value.int .i64 0, Value.int .i64 0, Value.bool false] 70) = w3 at hR ⊢
  clear hW
  generalize hN : w.heap.size = N at hR ⊢
  have h28 : w3.cell? ⟨N, 28, none⟩ = some (.bool false) := by simp [World.cell?, hR.s, hb]
  have hx1 : w3.cell? ⟨N + 1, 1, none⟩ = some (.slice ta p.threads.length tc) := by simp [World.cell?, hR.box]
  have e1 : decide ((k : Int) < 0) = false := decide_eq_false (by omega)
  have e2 : decide ((p.threads.length : Int) ≤ (k : Int)) = false := decide_eq_false (by omega)
  have e2' : decide (p.threads.length ≤ k) = false := decide_eq_false (by omega)
  have hc8 : w3.cell? ⟨N, 8 + k, none⟩ = some (.int .i64 (i : Int)) := by simp [World.cell?, hR.s, hat (8 + k) (by omega), hgi]
  obtain ⟨tb, t0, c', tv, hv, hbl, hct, hL⟩ := hR.has.threads.at' hk
  cases hv
  obtain ⟨b2, o2, cl, hv, hb2, q0, q1, q2, q3⟩ := hL.at' hi
  cases hv
  rw [hln] at q0 q1 q2 q3
  generalize p.threads.getD k [] = tt at hL hct hi hln q0 q1 q2 q3 hok
  have HOK := Lib.hid hok
  clear hok
  have e3 : decide ((tt.length : Int) ≤ (i : Int)) = false := decide_eq_false (by omega)
  have e3' : decide (tt.length ≤ i) = false := decide_eq_false (by omega)
  have hNl : N + 2 < w3.heap.size := by
    obtain ⟨Z, hZ, _⟩ := hR.out
    rw [Array.getElem?_eq_some_iff] at hZ
    exact hZ.1
  have hNl0 : N < w3.heap.size := by omega
  have hNl1 : N + 1 < w3.heap.size := by omega
  have hk4 : (k : Int) < 4 := by omega
  have hk4n : k < 4 := by omega
  have HG := Lib.hid hgi
  clear hat hgi hln
  go_region
  go_wp2
  go_region
  go_upto_block 0 with fail
  have hS3 : Sta w3 N c false := ⟨hc, by rw [hR.s, ← HAE.out]; rfl⟩
  have hT4 := ((RTail.base hR (World.grownBy.refl _ _) rfl hS3 ⟨op, a, b, k'⟩).drew).drew
  generalize (w3.alloc (.cells #[.int .i64 (⟨op, a, b, k'⟩ : Ln).op, .int .i64 (⟨op, a, b, k'⟩ : Ln).a, .int .i64 (⟨op, a, b, k'⟩ : Ln).b, .int .i64 (⟨op, a, b, k'⟩ : Ln).c] 55 (0, 0))).drew.drew = w4 at hT4 ⊢
  generalize w3.heap.size = M at hT4 ⊢
  clear h28 hx1 hct q0 q1 q2 q3 hc8 hL hS3 hR
  have HT4 := Lib.hid hT4
  clear hT4
  go_cut [10] from 54 to 151 (fun _ wx => ∃ c1, RTail w wx N M c1 false sw (.slice (some ⟨tb, t0, none⟩) p.threads.length tc) p ⟨op, a, b, k'⟩ ∧ c1 = shared c (12 + k * 4) ⟨op, a, b, k'⟩)
  case first =>
    have hT4 := HT4.out
    have l1 := hT4.l1
    have l2 := hT4.l2
    have l3 := hT4.l3
    have hltN := hT4.s.lt
    have zf : ∀ j, w4.frozen? ⟨N, j, none⟩ = false := hT4.s.free
    have hok := HOK.out
    clear hT4 HOK
    by_cases h1 : op = 1
    · subst h1
      have hx : reg a = true ∧ word p.words.length b = true := by simpa [lineOK] using hok
      obtain ⟨a, rfl, ha⟩ := reg_nat hx.1
      obtain ⟨b, rfl, hb'⟩ := word_nat hx.2
      have f1 := HT4.out.cell (i := b) (by omega)
      have f2 := HT4.out.cell (i := 12 + k * 4 + a) (by omega)
      have z2 := zf (12 + k * 4 + a)
      clear zf hok hx
      go_wp2
      go_region
      go_wp2
      go_meet
      exact ⟨_, (HT4.out.set (i := 12 + k * 4 + a) (by omega) _).drew, by simp [shared]⟩
    by_cases h2 : op = 2
    · subst h2
      have hx : word p.words.length a = true ∧ reg b = true := by simpa [lineOK] using hok
      obtain ⟨a, rfl, ha⟩ := word_nat hx.1
      obtain ⟨b, rfl, hb'⟩ := reg_nat hx.2
      have f1 := HT4.out.cell (i := a) (by omega)
      have f2 := HT4.out.cell (i := 12 + k * 4 + b) (by omega)
      have z2 := zf a
      clear zf hok hx
      go_wp2
      go_region
      go_wp2
      go_meet
      exact ⟨_, (HT4.out.set (i := a) (by omega) _).drew, by simp [shared]⟩
    have b1 : (op == 1) = false := by simpa using h1
    have b2' : (op == 2) = false := by simpa using h2
    by_cases h3 : op = 3
    · subst h3
      have hx : reg a = true ∧ word p.words.length b = true := by simpa [lineOK] using hok
      obtain ⟨a, rfl, ha⟩ := reg_nat hx.1
      obtain ⟨b, rfl, hb'⟩ := word_nat hx.2
      have f1 := HT4.out.cell (i := b) (by omega)
      have f2 := HT4.out.cell (i := 12 + k * 4 + a) (by omega)
      have z1 := zf b
      have z2 := zf (12 + k * 4 + a)
      obtain ⟨vb, hvb⟩ : ∃ v, g c b = v := ⟨_, rfl⟩
      obtain ⟨va, hva⟩ : ∃ v, g c (12 + k * 4 + a) = v := ⟨_, rfl⟩
      rw [hvb] at f1
      rw [hva] at f2
      have HV := Lib.hid hvb
      have HU := Lib.hid hva
      clear hvb hva
      have hb8 : (b : Int) < 8 := by omega
      have hb8n : b < 8 := by omega
      have ha4 : (a : Int) < 4 := by omega
      have hNM : (N = M) = False := eq_false (by have := HT4.out.nM; omega)
      have hMN : (M = N) = False := eq_false (by have := HT4.out.nM; omega)
      clear zf hok hx b1 b2' h1 h2 e1 e2 e2' e3 e3' hNl hNl0 hNl1 hbl hb2 hi hk hT hb'
      go_wp2
      rename_i hK0
      have HK0 := Lib.hid hK0
      clear hK0
      refine wp_region_noPanic ?_
      refine wp_region_held_drew (S := (fun w' => w'.cell? ⟨M, 1, none⟩ = some (.int .i64 a) ∧ w'.cell? ⟨M, 2, none⟩ = some (.int .i64 b) ∧ w'.cell? ⟨M, 3, none⟩ = some (.int .i64 k'))) (by kernel_rfl) ?_ (fun hHeld => ?_)
      · go_keep
      refine wpAnyH_take (i := 0) (oi := { dst := some 80, op := _, type := _, pos := _, after := _, guard := none }) (v := ?_) rfl (by kernel_rfl) (by kernel_rfl) (by kernel_rfl) (fun _ _ _ h => h) (Or.inl ⟨by rfl, ?_⟩) (by assumption) ?_
      rotate_left
      · (intro w hSw; (try dsimp only at hSw); go_simp; try with_reducible rfl)
      simp only [Act.put, List.setIfInBounds_toArray, List.set_cons_zero, List.set_cons_succ]
      refine wpAnyH_take (i := 1) (oi := { dst := some 81, op := _, type := _, pos := _, after := _, guard := none }) (v := ?_) rfl (by kernel_rfl) (by kernel_rfl) (by kernel_rfl) (fun _ _ _ h => h) (Or.inl ⟨by rfl, ?_⟩) (by assumption) ?_
      rotate_left
      · (intro w hSw; (try dsimp only at hSw); go_simp; try with_reducible rfl)
      simp only [Act.put, List.setIfInBounds_toArray, List.set_cons_zero, List.set_cons_succ]
      refine wpAnyH_take (i := 2) (oi := { dst := some 82, op := _, type := _, pos := _, after := _, guard := none }) (v := ?_) rfl (by kernel_rfl) (by kernel_rfl) (by kernel_rfl) (fun _ _ _ h => h) (Or.inl ⟨by rfl, ?_⟩) (by assumption) ?_
      rotate_left
      · (intro w hSw; (try dsimp only at hSw); go_simp; try with_reducible rfl)
      simp only [Act.put, List.setIfInBounds_toArray, List.set_cons_zero, List.set_cons_succ]
      refine wpAnyH_take (i := 3) (oi := { dst := some 83, op := _, type := _, pos := _, after := _, guard := none }) (v := ?_) rfl (by kernel_rfl) (by kernel_rfl) (by kernel_rfl) (fun _ _ _ h => h) (Or.inl ⟨by rfl, ?_⟩) (by assumption) ?_
      rotate_left
      · (intro w hSw; (try dsimp only at hSw); go_simp; try with_reducible rfl)
      simp only [Act.put, List.setIfInBounds_toArray, List.set_cons_zero, List.set_cons_succ]
      refine wpAnyH_take (i := 4) (oi := { dst := some 84, op := _, type := _, pos := _, after := _, guard := none }) (v := ?_) rfl (by kernel_rfl) (by kernel_rfl) (by kernel_rfl) (fun _ _ _ h => h) (Or.inl ⟨by rfl, ?_⟩) (by assumption) ?_
      rotate_left
      · (intro w hSw; (try dsimp only at hSw); go_simp; try with_reducible rfl)
      simp only [Act.put, List.setIfInBounds_toArray, List.set_cons_zero, List.set_cons_succ]
      refine wpAnyH_take (i := 5) (oi := { dst := some 85, op := _, type := _, pos := _, after := _, guard := none }) (v := ?_) rfl (by kernel_rfl) (by kernel_rfl) (by kernel_rfl) (fun _ _ _ h => h) (Or.inl ⟨by rfl, ?_⟩) (by assumption) ?_
      rotate_left
      · (intro w hSw; (try dsimp only at hSw); go_simp; try with_reducible rfl)
      simp only [Act.put, List.setIfInBounds_toArray, List.set_cons_zero, List.set_cons_succ]
      refine wpAnyH_take (i := 6) (oi := { dst := some 86, op := _, type := _, pos := _, after := _, guard := none }) (v := ?_) rfl (by kernel_rfl) (by kernel_rfl) (by kernel_rfl) (fun _ _ _ h => h) (Or.inl ⟨by rfl, ?_⟩) (by assumption) ?_
      rotate_left
      · (intro w hSw; (try dsimp only at hSw); go_simp; try with_reducible rfl)
      simp only [Act.put, List.setIfInBounds_toArray, List.set_cons_zero, List.set_cons_succ]
      refine wpAnyH_take (i := 7) (oi := { dst := some 87, op := _, type := _, pos := _, after := _, guard := none }) (v := ?_) rfl (by kernel_rfl) (by kernel_rfl) (by kernel_rfl) (fun _ _ _ h => h) (Or.inl ⟨by rfl, ?_⟩) (by assumption) ?_
      rotate_left
      · (intro w hSw; (try dsimp only at hSw); go_simp; try with_reducible rfl)
      simp only [Act.put, List.setIfInBounds_toArray, List.set_cons_zero, List.set_cons_succ]
      refine wpAnyH_take (i := 8) (oi := { dst := some 88, op := _, type := _, pos := _, after := _, guard := none }) (v := ?_) rfl (by kernel_rfl) (by kernel_rfl) (by kernel_rfl) (fun _ _ _ h => h) (Or.inl ⟨by rfl, ?_⟩) (by assumption) ?_
      rotate_left
      · (intro w hSw; (try dsimp only at hSw); go_simp; try with_reducible rfl)
      simp only [Act.put, List.setIfInBounds_toArray, List.set_cons_zero, List.set_cons_succ]
      refine wpAnyH_take (i := 10) (oi := { dst := some 90, op := _, type := _, pos := _, after := _, guard := none }) (v := ?_) rfl (by kernel_rfl) (by kernel_rfl) (by kernel_rfl) (fun _ _ _ h => h) (Or.inl ⟨by rfl, ?_⟩) (by assumption) ?_
      rotate_left
      · (intro w hSw; (try dsimp only at hSw); go_simp; try with_reducible rfl)
      simp only [Act.put, List.setIfInBounds_toArray, List.set_cons_zero, List.set_cons_succ]
      refine wpAnyH_take (i := 11) (oi := { dst := some 91, op := _, type := _, pos := _, after := _, guard := none }) (v := ?_) rfl (by kernel_rfl) (by kernel_rfl) (by kernel_rfl) (fun _ _ _ h => h) (Or.inl ⟨by rfl, ?_⟩) (by assumption) ?_
      rotate_left
      · (intro w hSw; (try dsimp only at hSw); go_simp; try with_reducible rfl)
      simp only [Act.put, List.setIfInBounds_toArray, List.set_cons_zero, List.set_cons_succ]
      refine wpAnyH_take (i := 12) (oi := { dst := some 92, op := _, type := _, pos := _, after := _, guard := none }) (v := ?_) rfl (by kernel_rfl) (by kernel_rfl) (by kernel_rfl) (fun _ _ _ h => h) (Or.inl ⟨by rfl, ?_⟩) (by assumption) ?_
      rotate_left
      · (intro w hSw; (try dsimp only at hSw); go_simp; try with_reducible rfl)
      simp only [Act.put, List.setIfInBounds_toArray, List.set_cons_zero, List.set_cons_succ]
      refine wpAnyH_take (i := 13) (oi := { dst := some 93, op := _, type := _, pos := _, after := _, guard := none }) (v := ?_) rfl (by kernel_rfl) (by kernel_rfl) (by kernel_rfl) (fun _ _ _ h => h) (Or.inl ⟨by rfl, ?_⟩) (by assumption) ?_
      rotate_left
      · (intro w hSw; (try dsimp only at hSw); go_simp; try with_reducible rfl)
      simp only [Act.put, List.setIfInBounds_toArray, List.set_cons_zero, List.set_cons_succ]
      refine wpAnyH_take (i := 15) (oi := { dst := some 95, op := _, type := _, pos := _, after := _, guard := none }) (v := ?_) rfl (by kernel_rfl) (by kernel_rfl) (by kernel_rfl) (fun _ _ _ h => h) (Or.inl ⟨by rfl, ?_⟩) (by assumption) ?_
      rotate_left
      · (intro w hSw; (try dsimp only at hSw); go_simp; try with_reducible rfl)
      simp only [Act.put, List.setIfInBounds_toArray, List.set_cons_zero, List.set_cons_succ]
      refine wpAnyH_take (i := 16) (oi := { dst := some 96, op := _, type := _, pos := _, after := _, guard := none }) (v := ?_) rfl (by kernel_rfl) (by kernel_rfl) (by kernel_rfl) (fun _ _ _ h => h) (Or.inl ⟨by rfl, ?_⟩) (by assumption) ?_
      rotate_left
      · (intro w hSw; (try dsimp only at hSw); go_simp; try with_reducible rfl)
      simp only [Act.put, List.setIfInBounds_toArray, List.set_cons_zero, List.set_cons_succ]
      refine wpAnyH_take (i := 18) (oi := { dst := some 98, op := _, type := _, pos := _, after := _, guard := none }) (v := ?_) rfl (by kernel_rfl) (by kernel_rfl) (by kernel_rfl) (fun _ _ _ h => h) (Or.inl ⟨by rfl, ?_⟩) (by assumption) ?_
      rotate_left
      · (intro w hSw; (try dsimp only at hSw); go_simp; try with_reducible rfl)
      simp only [Act.put, List.setIfInBounds_toArray, List.set_cons_zero, List.set_cons_succ]
      refine wpAnyH_take (i := 21) (oi := { dst := some 100, op := _, type := _, pos := _, after := _, guard := none }) (v := ?_) rfl (by kernel_rfl) (by kernel_rfl) (by kernel_rfl) (fun _ _ _ h => h) (Or.inl ⟨by rfl, ?_⟩) (by assumption) ?_
      rotate_left
      · (intro w hSw; (try dsimp only at hSw); go_simp; try with_reducible rfl)
      simp only [Act.put, List.setIfInBounds_toArray, List.set_cons_zero, List.set_cons_succ]
      refine wpAnyH_ready (rs := [9, 14]) (by kernel_rfl) (by simp) ?_
      refine AllReadyH.cons (o := { dst := some 89, op := _, type := _, pos := _, after := _, guard := none }) rfl (fun K hK => ?_) ?_
      rotate_left
      · 
        refine AllReadyH.cons (o := { dst := some 94, op := _, type := _, pos := _, after := _, guard := none }) rfl (fun K hK => ?_) ?_
        rotate_left
        · exact AllReadyH.nil
        go_simp
        refine hK.out _ _ ?_ (fun hHeld => ?_)
        · go_keep
        clear hK K
        try simp only [Act.put, List.setIfInBounds_toArray, List.set_cons_zero, List.set_cons_succ]
        refine wpAnyH_take (i := 17) (oi := { dst := some 97, op := _, type := _, pos := _, after := _, guard := none }) (v := ?_) rfl (by kernel_rfl) (by kernel_rfl) (by kernel_rfl) (fun _ _ _ h => h) (Or.inl ⟨by rfl, ?_⟩) (by assumption) ?_
        rotate_left
        · (intro w hSw; (try dsimp only at hSw); go_simp; try with_reducible rfl)
        simp only [Act.put, List.setIfInBounds_toArray, List.set_cons_zero, List.set_cons_succ]
        refine wpAnyH_ready (rs := [9]) (by kernel_rfl) (by simp) ?_
        refine AllReadyH.cons (o := { dst := some 89, op := _, type := _, pos := _, after := _, guard := none }) rfl (fun K hK => ?_) ?_
        rotate_left
        · exact AllReadyH.nil
        go_simp
        refine hK.out _ _ ?_ (fun hHeld => ?_)
        · go_keep
        clear hK K
        try simp only [Act.put, List.setIfInBounds_toArray, List.set_cons_zero, List.set_cons_succ]
        refine wpAnyH_take (i := 19) (oi := { dst := some 99, op := _, type := _, pos := _, after := _, guard := none }) (v := ?_) rfl (by kernel_rfl) (by kernel_rfl) (by kernel_rfl) (fun _ _ _ h => h) (Or.inl ⟨by rfl, ?_⟩) (by assumption) ?_
        rotate_left
        · (intro w hSw; (try dsimp only at hSw); go_simp; try with_reducible rfl)
        simp only [Act.put, List.setIfInBounds_toArray, List.set_cons_zero, List.set_cons_succ]
        refine wpAnyH_ready (rs := [20]) (by kernel_rfl) (by simp) ?_
        refine AllReadyH.cons (o := { dst := none, op := _, type := _, pos := _, after := _, guard := none }) rfl (fun K hK => ?_) ?_
        rotate_left
        · exact AllReadyH.nil
        go_simp
        refine hK.out _ _ ?_ (fun hHeld => ?_)
        · go_keep
        clear hK K
        try simp only [Act.put, List.setIfInBounds_toArray, List.set_cons_zero, List.set_cons_succ]
        refine wpAnyH_take (i := 22) (oi := { dst := some 101, op := _, type := _, pos := _, after := _, guard := none }) (v := ?_) rfl (by kernel_rfl) (by kernel_rfl) (by kernel_rfl) (fun _ _ _ h => h) (Or.inl ⟨by rfl, ?_⟩) (by assumption) ?_
        rotate_left
        · (intro w hSw; (try dsimp only at hSw); go_simp; try with_reducible rfl)
        simp only [Act.put, List.setIfInBounds_toArray, List.set_cons_zero, List.set_cons_succ]
        refine wpAnyH_ready (rs := [23]) (by kernel_rfl) (by simp) ?_
        refine AllReadyH.cons (o := { dst := none, op := _, type := _, pos := _, after := _, guard := none }) rfl (fun K hK => ?_) ?_
        rotate_left
        · exact AllReadyH.nil
        go_simp
        refine hK.out _ _ ?_ (fun hHeld => ?_)
        · go_keep
        clear hK K
        try simp only [Act.put, List.setIfInBounds_toArray, List.set_cons_zero, List.set_cons_succ]
        refine wpAnyH_done (by kernel_rfl) ?_ _
        refine NoPanic.normal ?_
        have hK0 := HK0.out
        go_wp2
        go_meet
        rw [← HV.out]
        exact ⟨_, ((HT4.out.set (i := 12 + k * 4 + a) (by omega) _).set (i := b) (by omega) _).drew, by simp [shared, wrap_w64]⟩
      go_simp
      refine hK.out _ _ ?_ (fun hHeld => ?_)
      · go_keep
      clear hK K
      try simp only [Act.put, List.setIfInBounds_toArray, List.set_cons_zero, List.set_cons_succ]
      refine wpAnyH_ready (rs := [14]) (by kernel_rfl) (by simp) ?_
      refine AllReadyH.cons (o := { dst := some 94, op := _, type := _, pos := _, after := _, guard := none }) rfl (fun K hK => ?_) ?_
      rotate_left
      · exact AllReadyH.nil
      go_simp
      refine hK.out _ _ ?_ (fun hHeld => ?_)
      · go_keep
      clear hK K
      try simp only [Act.put, List.setIfInBounds_toArray, List.set_cons_zero, List.set_cons_succ]
      refine wpAnyH_take (i := 17) (oi := { dst := some 97, op := _, type := _, pos := _, after := _, guard := none }) (v := ?_) rfl (by kernel_rfl) (by kernel_rfl) (by kernel_rfl) (fun _ _ _ h => h) (Or.inl ⟨by rfl, ?_⟩) (by assumption) ?_
      rotate_left
      · (intro w hSw; (try dsimp only at hSw); go_simp; try with_reducible rfl)
      simp only [Act.put, List.setIfInBounds_toArray, List.set_cons_zero, List.set_cons_succ]
      refine wpAnyH_take (i := 19) (oi := { dst := some 99, op := _, type := _, pos := _, after := _, guard := none }) (v := ?_) rfl (by kernel_rfl) (by kernel_rfl) (by kernel_rfl) (fun _ _ _ h => h) (Or.inl ⟨by rfl, ?_⟩) (by assumption) ?_
      rotate_left
      · (intro w hSw; (try dsimp only at hSw); go_simp; try with_reducible rfl)
      simp only [Act.put, List.setIfInBounds_toArray, List.set_cons_zero, List.set_cons_succ]
      refine wpAnyH_ready (rs := [20]) (by kernel_rfl) (by simp) ?_
      refine AllReadyH.cons (o := { dst := none, op := _, type := _, pos := _, after := _, guard := none }) rfl (fun K hK => ?_) ?_
      rotate_left
      · exact AllReadyH.nil
      go_simp
      refine hK.out _ _ ?_ (fun hHeld => ?_)
      · go_keep
      clear hK K
      try simp only [Act.put, List.setIfInBounds_toArray, List.set_cons_zero, List.set_cons_succ]
      refine wpAnyH_take (i := 22) (oi := { dst := some 101, op := _, type := _, pos := _, after := _, guard := none }) (v := ?_) rfl (by kernel_rfl) (by kernel_rfl) (by kernel_rfl) (fun _ _ _ h => h) (Or.inl ⟨by rfl, ?_⟩) (by assumption) ?_
      rotate_left
      · (intro w hSw; (try dsimp only at hSw); go_simp; try with_reducible rfl)
      simp only [Act.put, List.setIfInBounds_toArray, List.set_cons_zero, List.set_cons_succ]
      refine wpAnyH_ready (rs := [23]) (by kernel_rfl) (by simp) ?_
      refine AllReadyH.cons (o := { dst := none, op := _, type := _, pos := _, after := _, guard := none }) rfl (fun K hK => ?_) ?_
      rotate_left
      · exact AllReadyH.nil
      go_simp
      refine hK.out _ _ ?_ (fun hHeld => ?_)
      · go_keep
      clear hK K
      try simp only [Act.put, List.setIfInBounds_toArray, List.set_cons_zero, List.set_cons_succ]
      refine wpAnyH_done (by kernel_rfl) ?_ _
      refine NoPanic.normal ?_
      have hK0 := HK0.out
      go_wp2
      go_meet
      rw [← HV.out]
      exact ⟨_, ((HT4.out.set (i := 12 + k * 4 + a) (by omega) _).set (i := b) (by omega) _).drew, by simp [shared, wrap_w64]⟩
    by_cases h4 : op = 4
    · subst h4
      have hx : reg a = true ∧ word p.words.length b = true := by simpa [lineOK] using hok
      obtain ⟨a, rfl, ha⟩ := reg_nat hx.1
      obtain ⟨b, rfl, hb'⟩ := word_nat hx.2
      have f1 := HT4.out.cell (i := b) (by omega)
      have f2 := HT4.out.cell (i := 12 + k * 4 + a) (by omega)
      have z1 := zf b
      have z2 := zf (12 + k * 4 + a)
      obtain ⟨vb, hvb⟩ : ∃ v, g c b = v := ⟨_, rfl⟩
      obtain ⟨va, hva⟩ : ∃ v, g c (12 + k * 4 + a) = v := ⟨_, rfl⟩
      rw [hvb] at f1
      rw [hva] at f2
      have HV := Lib.hid hvb
      have HU := Lib.hid hva
      clear hvb hva
      have hb8 : (b : Int) < 8 := by omega
      have hb8n : b < 8 := by omega
      have ha4 : (a : Int) < 4 := by omega
      have hNM : (N = M) = False := eq_false (by have := HT4.out.nM; omega)
      have hMN : (M = N) = False := eq_false (by have := HT4.out.nM; omega)
      clear zf hok hx b1 b2' h1 h2 e1 e2 e2' e3 e3' hNl hNl0 hNl1 hbl hb2 hi hk hT hb'
      go_wp2
      rename_i hK0
      have HK0 := Lib.hid hK0
      clear hK0
      refine wp_region_noPanic ?_
      refine wp_region_held_drew (S := (fun w' => w'.cell? ⟨M, 1, none⟩ = some (.int .i64 a) ∧ w'.cell? ⟨M, 2, none⟩ = some (.int .i64 b) ∧ w'.cell? ⟨M, 3, none⟩ = some (.int .i64 k'))) (by kernel_rfl) ?_ (fun hHeld => ?_)
      · go_keep
      refine wpAnyH_take (i := 0) (oi := { dst := some 104, op := _, type := _, pos := _, after := _, guard := none }) (v := ?_) rfl (by kernel_rfl) (by kernel_rfl) (by kernel_rfl) (fun _ _ _ h => h) (Or.inl ⟨by rfl, ?_⟩) (by assumption) ?_
      rotate_left
      · (intro w hSw; (try dsimp only at hSw); go_simp; try with_reducible rfl)
      simp only [Act.put, List.setIfInBounds_toArray, List.set_cons_zero, List.set_cons_succ]
      refine wpAnyH_take (i := 1) (oi := { dst := some 105, op := _, type := _, pos := _, after := _, guard := none }) (v := ?_) rfl (by kernel_rfl) (by kernel_rfl) (by kernel_rfl) (fun _ _ _ h => h) (Or.inl ⟨by rfl, ?_⟩) (by assumption) ?_
      rotate_left
      · (intro w hSw; (try dsimp only at hSw); go_simp; try with_reducible rfl)
      simp only [Act.put, List.setIfInBounds_toArray, List.set_cons_zero, List.set_cons_succ]
      refine wpAnyH_take (i := 2) (oi := { dst := some 106, op := _, type := _, pos := _, after := _, guard := none }) (v := ?_) rfl (by kernel_rfl) (by kernel_rfl) (by kernel_rfl) (fun _ _ _ h => h) (Or.inl ⟨by rfl, ?_⟩) (by assumption) ?_
      rotate_left
      · (intro w hSw; (try dsimp only at hSw); go_simp; try with_reducible rfl)
      simp only [Act.put, List.setIfInBounds_toArray, List.set_cons_zero, List.set_cons_succ]
      refine wpAnyH_take (i := 3) (oi := { dst := some 107, op := _, type := _, pos := _, after := _, guard := none }) (v := ?_) rfl (by kernel_rfl) (by kernel_rfl) (by kernel_rfl) (fun _ _ _ h => h) (Or.inl ⟨by rfl, ?_⟩) (by assumption) ?_
      rotate_left
      · (intro w hSw; (try dsimp only at hSw); go_simp; try with_reducible rfl)
      simp only [Act.put, List.setIfInBounds_toArray, List.set_cons_zero, List.set_cons_succ]
      refine wpAnyH_take (i := 4) (oi := { dst := some 108, op := _, type := _, pos := _, after := _, guard := none }) (v := ?_) rfl (by kernel_rfl) (by kernel_rfl) (by kernel_rfl) (fun _ _ _ h => h) (Or.inl ⟨by rfl, ?_⟩) (by assumption) ?_
      rotate_left
      · (intro w hSw; (try dsimp only at hSw); go_simp; try with_reducible rfl)
      simp only [Act.put, List.setIfInBounds_toArray, List.set_cons_zero, List.set_cons_succ]
      refine wpAnyH_take (i := 5) (oi := { dst := some 109, op := _, type := _, pos := _, after := _, guard := none }) (v := ?_) rfl (by kernel_rfl) (by kernel_rfl) (by kernel_rfl) (fun _ _ _ h => h) (Or.inl ⟨by rfl, ?_⟩) (by assumption) ?_
      rotate_left
      · (intro w hSw; (try dsimp only at hSw); go_simp; try with_reducible rfl)
      simp only [Act.put, List.setIfInBounds_toArray, List.set_cons_zero, List.set_cons_succ]
      refine wpAnyH_take (i := 6) (oi := { dst := some 110, op := _, type := _, pos := _, after := _, guard := none }) (v := ?_) rfl (by kernel_rfl) (by kernel_rfl) (by kernel_rfl) (fun _ _ _ h => h) (Or.inl ⟨by rfl, ?_⟩) (by assumption) ?_
      rotate_left
      · (intro w hSw; (try dsimp only at hSw); go_simp; try with_reducible rfl)
      simp only [Act.put, List.setIfInBounds_toArray, List.set_cons_zero, List.set_cons_succ]
      refine wpAnyH_take (i := 7) (oi := { dst := some 111, op := _, type := _, pos := _, after := _, guard := none }) (v := ?_) rfl (by kernel_rfl) (by kernel_rfl) (by kernel_rfl) (fun _ _ _ h => h) (Or.inl ⟨by rfl, ?_⟩) (by assumption) ?_
      rotate_left
      · (intro w hSw; (try dsimp only at hSw); go_simp; try with_reducible rfl)
      simp only [Act.put, List.setIfInBounds_toArray, List.set_cons_zero, List.set_cons_succ]
      refine wpAnyH_take (i := 8) (oi := { dst := some 112, op := _, type := _, pos := _, after := _, guard := none }) (v := ?_) rfl (by kernel_rfl) (by kernel_rfl) (by kernel_rfl) (fun _ _ _ h => h) (Or.inl ⟨by rfl, ?_⟩) (by assumption) ?_
      rotate_left
      · (intro w hSw; (try dsimp only at hSw); go_simp; try with_reducible rfl)
      simp only [Act.put, List.setIfInBounds_toArray, List.set_cons_zero, List.set_cons_succ]
      refine wpAnyH_take (i := 10) (oi := { dst := some 114, op := _, type := _, pos := _, after := _, guard := none }) (v := ?_) rfl (by kernel_rfl) (by kernel_rfl) (by kernel_rfl) (fun _ _ _ h => h) (Or.inl ⟨by rfl, ?_⟩) (by assumption) ?_
      rotate_left
      · (intro w hSw; (try dsimp only at hSw); go_simp; try with_reducible rfl)
      simp only [Act.put, List.setIfInBounds_toArray, List.set_cons_zero, List.set_cons_succ]
      refine wpAnyH_take (i := 11) (oi := { dst := some 115, op := _, type := _, pos := _, after := _, guard := none }) (v := ?_) rfl (by kernel_rfl) (by kernel_rfl) (by kernel_rfl) (fun _ _ _ h => h) (Or.inl ⟨by rfl, ?_⟩) (by assumption) ?_
      rotate_left
      · (intro w hSw; (try dsimp only at hSw); go_simp; try with_reducible rfl)
      simp only [Act.put, List.setIfInBounds_toArray, List.set_cons_zero, List.set_cons_succ]
      refine wpAnyH_take (i := 12) (oi := { dst := some 116, op := _, type := _, pos := _, after := _, guard := none }) (v := ?_) rfl (by kernel_rfl) (by kernel_rfl) (by kernel_rfl) (fun _ _ _ h => h) (Or.inl ⟨by rfl, ?_⟩) (by assumption) ?_
      rotate_left
      · (intro w hSw; (try dsimp only at hSw); go_simp; try with_reducible rfl)
      simp only [Act.put, List.setIfInBounds_toArray, List.set_cons_zero, List.set_cons_succ]
      refine wpAnyH_take (i := 13) (oi := { dst := some 117, op := _, type := _, pos := _, after := _, guard := none }) (v := ?_) rfl (by kernel_rfl) (by kernel_rfl) (by kernel_rfl) (fun _ _ _ h => h) (Or.inl ⟨by rfl, ?_⟩) (by assumption) ?_
      rotate_left
      · (intro w hSw; (try dsimp only at hSw); go_simp; try with_reducible rfl)
      simp only [Act.put, List.setIfInBounds_toArray, List.set_cons_zero, List.set_cons_succ]
      refine wpAnyH_take (i := 14) (oi := { dst := some 118, op := _, type := _, pos := _, after := _, guard := none }) (v := ?_) rfl (by kernel_rfl) (by kernel_rfl) (by kernel_rfl) (fun _ _ _ h => h) (Or.inl ⟨by rfl, ?_⟩) (by assumption) ?_
      rotate_left
      · (intro w hSw; (try dsimp only at hSw); go_simp; try with_reducible rfl)
      simp only [Act.put, List.setIfInBounds_toArray, List.set_cons_zero, List.set_cons_succ]
      refine wpAnyH_take (i := 16) (oi := { dst := some 120, op := _, type := _, pos := _, after := _, guard := none }) (v := ?_) rfl (by kernel_rfl) (by kernel_rfl) (by kernel_rfl) (fun _ _ _ h => h) (Or.inl ⟨by rfl, ?_⟩) (by assumption) ?_
      rotate_left
      · (intro w hSw; (try dsimp only at hSw); go_simp; try with_reducible rfl)
      simp only [Act.put, List.setIfInBounds_toArray, List.set_cons_zero, List.set_cons_succ]
      refine wpAnyH_take (i := 19) (oi := { dst := some 122, op := _, type := _, pos := _, after := _, guard := none }) (v := ?_) rfl (by kernel_rfl) (by kernel_rfl) (by kernel_rfl) (fun _ _ _ h => h) (Or.inl ⟨by rfl, ?_⟩) (by assumption) ?_
      rotate_left
      · (intro w hSw; (try dsimp only at hSw); go_simp; try with_reducible rfl)
      simp only [Act.put, List.setIfInBounds_toArray, List.set_cons_zero, List.set_cons_succ]
      refine wpAnyH_ready (rs := [9, 15]) (by kernel_rfl) (by simp) ?_
      refine AllReadyH.cons (o := { dst := some 113, op := _, type := _, pos := _, after := _, guard := none }) rfl (fun K hK => ?_) ?_
      rotate_left
      · 
        refine AllReadyH.cons (o := { dst := some 119, op := _, type := _, pos := _, after := _, guard := none }) rfl (fun K hK => ?_) ?_
        rotate_left
        · exact AllReadyH.nil
        go_simp
        refine hK.out _ _ ?_ (fun hHeld => ?_)
        · go_keep
        clear hK K
        try simp only [Act.put, List.setIfInBounds_toArray, List.set_cons_zero, List.set_cons_succ]
        refine wpAnyH_ready (rs := [9]) (by kernel_rfl) (by simp) ?_
        refine AllReadyH.cons (o := { dst := some 113, op := _, type := _, pos := _, after := _, guard := none }) rfl (fun K hK => ?_) ?_
        rotate_left
        · exact AllReadyH.nil
        go_simp
        refine hK.out _ _ ?_ (fun hHeld => ?_)
        · go_keep
        clear hK K
        try simp only [Act.put, List.setIfInBounds_toArray, List.set_cons_zero, List.set_cons_succ]
        refine wpAnyH_take (i := 17) (oi := { dst := some 121, op := _, type := _, pos := _, after := _, guard := none }) (v := ?_) rfl (by kernel_rfl) (by kernel_rfl) (by kernel_rfl) (fun _ _ _ h => h) (Or.inl ⟨by rfl, ?_⟩) (by assumption) ?_
        rotate_left
        · (intro w hSw; (try dsimp only at hSw); go_simp; try with_reducible rfl)
        simp only [Act.put, List.setIfInBounds_toArray, List.set_cons_zero, List.set_cons_succ]
        refine wpAnyH_ready (rs := [18]) (by kernel_rfl) (by simp) ?_
        refine AllReadyH.cons (o := { dst := none, op := _, type := _, pos := _, after := _, guard := none }) rfl (fun K hK => ?_) ?_
        rotate_left
        · exact AllReadyH.nil
        go_simp
        refine hK.out _ _ ?_ (fun hHeld => ?_)
        · go_keep
        clear hK K
        try simp only [Act.put, List.setIfInBounds_toArray, List.set_cons_zero, List.set_cons_succ]
        refine wpAnyH_take (i := 20) (oi := { dst := some 123, op := _, type := _, pos := _, after := _, guard := none }) (v := ?_) rfl (by kernel_rfl) (by kernel_rfl) (by kernel_rfl) (fun _ _ _ h => h) (Or.inl ⟨by rfl, ?_⟩) (by assumption) ?_
        rotate_left
        · (intro w hSw; (try dsimp only at hSw); go_simp; try with_reducible rfl)
        simp only [Act.put, List.setIfInBounds_toArray, List.set_cons_zero, List.set_cons_succ]
        refine wpAnyH_ready (rs := [21]) (by kernel_rfl) (by simp) ?_
        refine AllReadyH.cons (o := { dst := none, op := _, type := _, pos := _, after := _, guard := none }) rfl (fun K hK => ?_) ?_
        rotate_left
        · exact AllReadyH.nil
        go_simp
        refine hK.out _ _ ?_ (fun hHeld => ?_)
        · go_keep
        clear hK K
        try simp only [Act.put, List.setIfInBounds_toArray, List.set_cons_zero, List.set_cons_succ]
        refine wpAnyH_done (by kernel_rfl) ?_ _
        refine NoPanic.normal ?_
        have hK0 := HK0.out
        go_wp2
        go_meet
        rw [← HV.out, ← HU.out]
        exact ⟨_, ((HT4.out.set (i := 12 + k * 4 + a) (by omega) _).set (i := b) (by omega) _).drew, by simp [shared]⟩
      go_simp
      refine hK.out _ _ ?_ (fun hHeld => ?_)
      · go_keep
      clear hK K
      try simp only [Act.put, List.setIfInBounds_toArray, List.set_cons_zero, List.set_cons_succ]
      refine wpAnyH_ready (rs := [15]) (by kernel_rfl) (by simp) ?_
      refine AllReadyH.cons (o := { dst := some 119, op := _, type := _, pos := _, after := _, guard := none }) rfl (fun K hK => ?_) ?_
      rotate_left
      · exact AllReadyH.nil
      go_simp
      refine hK.out _ _ ?_ (fun hHeld => ?_)
      · go_keep
      clear hK K
      try simp only [Act.put, List.setIfInBounds_toArray, List.set_cons_zero, List.set_cons_succ]
      refine wpAnyH_take (i := 17) (oi := { dst := some 121, op := _, type := _, pos := _, after := _, guard := none }) (v := ?_) rfl (by kernel_rfl) (by kernel_rfl) (by kernel_rfl) (fun _ _ _ h => h) (Or.inl ⟨by rfl, ?_⟩) (by assumption) ?_
      rotate_left
      · (intro w hSw; (try dsimp only at hSw); go_simp; try with_reducible rfl)
      simp only [Act.put, List.setIfInBounds_toArray, List.set_cons_zero, List.set_cons_succ]
      refine wpAnyH_ready (rs := [18]) (by kernel_rfl) (by simp) ?_
      refine AllReadyH.cons (o := { dst := none, op := _, type := _, pos := _, after := _, guard := none }) rfl (fun K hK => ?_) ?_
      rotate_left
      · exact AllReadyH.nil
      go_simp
      refine hK.out _ _ ?_ (fun hHeld => ?_)
      · go_keep
      clear hK K
      try simp only [Act.put, List.setIfInBounds_toArray, List.set_cons_zero, List.set_cons_succ]
      refine wpAnyH_take (i := 20) (oi := { dst := some 123, op := _, type := _, pos := _, after := _, guard := none }) (v := ?_) rfl (by kernel_rfl) (by kernel_rfl) (by kernel_rfl) (fun _ _ _ h => h) (Or.inl ⟨by rfl, ?_⟩) (by assumption) ?_
      rotate_left
      · (intro w hSw; (try dsimp only at hSw); go_simp; try with_reducible rfl)
      simp only [Act.put, List.setIfInBounds_toArray, List.set_cons_zero, List.set_cons_succ]
      refine wpAnyH_ready (rs := [21]) (by kernel_rfl) (by simp) ?_
      refine AllReadyH.cons (o := { dst := none, op := _, type := _, pos := _, after := _, guard := none }) rfl (fun K hK => ?_) ?_
      rotate_left
      · exact AllReadyH.nil
      go_simp
      refine hK.out _ _ ?_ (fun hHeld => ?_)
      · go_keep
      clear hK K
      try simp only [Act.put, List.setIfInBounds_toArray, List.set_cons_zero, List.set_cons_succ]
      refine wpAnyH_done (by kernel_rfl) ?_ _
      refine NoPanic.normal ?_
      have hK0 := HK0.out
      go_wp2
      go_meet
      rw [← HV.out, ← HU.out]
      exact ⟨_, ((HT4.out.set (i := 12 + k * 4 + a) (by omega) _).set (i := b) (by omega) _).drew, by simp [shared]⟩
    have b3 : (op == 3) = false := by simpa using h3
    have b4 : (op == 4) = false := by simpa using h4
    by_cases h5 : op = 5
    · subst h5
      have hx : (word p.words.length a = true ∧ reg b = true) ∧ reg k' = true := by simpa [lineOK] using hok
      obtain ⟨a, rfl, ha⟩ := word_nat hx.1.1
      obtain ⟨b, rfl, hb'⟩ := reg_nat hx.1.2
      obtain ⟨d, rfl, hd⟩ := reg_nat hx.2
      have f1 := HT4.out.cell (i := a) (by omega)
      have f2 := HT4.out.cell (i := 12 + k * 4 + b) (by omega)
      have f3 := HT4.out.cell (i := 12 + k * 4 + d) (by omega)
      have f4 := HT4.out.cell (i := 12 + k * 4 + 3) (by omega)
      have z1 := zf a
      have z2 := zf (12 + k * 4 + 3)
      clear zf hok hx b1 b2' b3 b4
      by_cases he : g c a = g c (12 + k * 4 + b)
      · have he' : (g c a == g c (12 + k * 4 + b)) = true := by simpa using he
        go_wp2
        go_region
        go_wp2
        go_region
        go_wp2
        go_meet
        exact ⟨_, ((HT4.out.set (i := a) (by omega) _).set (i := 12 + k * 4 + 3) (by omega) _).drew.drew, by simp [shared, he]⟩
      · have he' : (g c a == g c (12 + k * 4 + b)) = false := by simpa using he
        go_wp2
        go_region
        go_wp2
        go_meet
        exact ⟨_, (HT4.out.set (i := 12 + k * 4 + 3) (by omega) _).drew, by simp [shared, he]⟩
    have b5 : (op == 5) = false := by simpa using h5
    clear zf hok l1 l2 l3
    go_wp2
    go_meet
    exact ⟨_, HT4.out, by simp [shared, h1, h2, h3, h4, h5]⟩
  case rest =>
    obtain ⟨c1, hT5, hc1⟩ := hcut
    have hg8 : g c1 (8 + k) = i := by rw [hc1, shared_at HOK.out hn8 hk4n]; exact HG.out
    have q8 : wc.cell? ⟨N, 8 + k, none⟩ = some (.int .i64 (i : Int)) := by rw [← hg8]; exact hT5.cell (by omega)
    have l0 := hT5.l0
    have l1 := hT5.l1
    have l2 := hT5.l2
    have l3 := hT5.l3
    have hlt5 := hT5.s.lt
    have HT5 := Lib.hid hT5
    clear hT5 hg8
    go_wp2
    go_region_with (go_at_call 55; (refine (own_walk' N (12 + k * 4) c1 false ⟨op, a, b, k'⟩ p.words.length tt.length HOK.out i _ HT5.out.drew.s (by omega)).mono ?_; rintro e w6 ⟨v, b6, c2, rfl, HO, hS6, hg6⟩; have HT6 := Lib.hid (HT5.out.drew.kept hg6 hS6); have z8 := hS6.free (8 + k); have z28 := hS6.free 28; have hlt6 := hS6.lt; have y8 := hS6.at' (i := 8 + k) (by omega); have y28 := hS6.badc; clear hS6 hg6))
    all_goals (
      have hT7 := HT6.out.done hk4n v b6
      generalize (w6.setCell ⟨N, 8 + k, none⟩ (.int .i64 v)).setCell ⟨N, 28, none⟩ (.bool b6) = w7 at hT7 ⊢
      obtain ⟨Z, hZ, hZs⟩ := hT7.out
      have hl7 := hT7.s.len
      have hs7 := stA_size hl7 b6
      go_wp2_with (first
        | refine wpList_load_row rfl 70 (.tmp 3) rfl N rfl 70 (stA (c2.set (8 + k) v) b6) (0, 0) _ hT7.s.blk Try.underlying70 rfl (by rw [hs7]; exact info_state) ?_
        | refine wpList_store_row rfl 70 (.tmp 6) (.tmp 166) rfl (N + 2) (stA (c2.set (8 + k) v) b6) rfl rfl 70 Z hZ (by rw [hs7]; exact info_state) (by rw [hs7, hZs]) (stA_one _ _) ?_)
      refine bodyPost_ret (results_row_tmp rfl _ _ (N + 2) 70 (stA (c2.set (8 + k) v) b6) (0, 0) _ rfl (heap_setRow hZ) Try.underlying70 rfl (by rw [hs7]; exact info_state)) rfl ?_
      refine ⟨?_, by rw [hN]; exact below_setRow hT7.below _ (by omega)⟩
      obtain ⟨hv, hb6, hc2⟩ := HO.out
      rw [hc2, hv, hb6, hc1]
      rfl)

end Go.Proofs.Ytmpgjnindbklaaa
