import Derived.Test.YtmpgjnindbklaaaEMets
import Derived.Test.YtmpgjnindbklaaaOpen
import Derived.Lib.SmallJoins
/-! A little program that comes in: read as data, it is one in memory; its numbers are numbers of 64 bits; how long it may be. -/
namespace Go.Proofs.Ytmpgjnindbklaaa
open Go.RowKit Go.Deep Go.ChangeShapes Go.WideShapes BA Ex
variable {H : Type} {enc : TypeId × Value → H} {w : World} {base : Nat} {spare : Nat → Bool} {held : Bool}

theorem cells_line : Try.prog.cellsOf 55 = 4 := by kernel_rfl
theorem cells_int : Try.prog.cellsOf 3 = 1 := by kernel_rfl
theorem cells_lines : Try.prog.cellsOf 46 = 1 := by kernel_rfl
theorem cells_ints : Try.prog.cellsOf 22 = 1 := by kernel_rfl
theorem cells_threads : Try.prog.cellsOf 23 = 1 := by kernel_rfl
theorem cells_little : Try.prog.cellsOf 25 = 2 := by kernel_rfl
theorem bytes_line : Try.prog.bytesOf 55 = 32 := by kernel_rfl
theorem bytes_lines : Try.prog.bytesOf 46 = 24 := by kernel_rfl
theorem bytes_int : Try.prog.bytesOf 3 = 8 := by kernel_rfl

/-- A slice of lines. -/
theorem open_lines {v : Value} {d : DataW H} {pl : List MemPlace} {fuel : Nat} (h : DataW.trod enc Try.prog w base spare held fuel 46 [v] = some (d, pl)) (hs : Small Try.prog 46 d) :
    ∃ t : List Ln, Lines w v t ∧ t.length * 32 ≤ reachBytes ∧ ∀ i, i < t.length → inR (t.getD i default).b ∧ inR (t.getD i default).c := by
  rcases open_slice Try.underlying46 h with ⟨hv, _⟩ | ⟨a, len, cap, m, n, D, Pl, hv, hb, hl, hm, hmm, hx, hcell⟩
  · obtain rfl : v = .slice none 0 0 := by simpa using hv
    exact ⟨[], .inl ⟨rfl, none, 0, rfl, by unfold maxLen; omega, fun _ => rfl⟩, by simp, fun i hi => by simp at hi⟩
  · obtain rfl : v = .slice (some a) len cap := by simpa using hv
    obtain ⟨rfl, _⟩ := Prod.mk.inj hx
    have hse := small_elems Try.underlying46 hs
    have hlm : len ≤ m := by rw [hmm]; split <;> omega
    have hlen : len * 32 ≤ reachBytes := by
      have h1 := hse.1
      rw [bytes_line] at h1
      simp only [List.length_map, List.length_range] at h1
      exact Nat.le_trans (Nat.mul_le_mul_right _ (by omega)) h1
    have each : ∀ i, i < len → ∃ x : Ln, w.cell? (a.add (i * 4)) = some (.int .i64 x.op) ∧ w.cell? (a.add (i * 4 + 1)) = some (.int .i64 x.a) ∧ w.cell? (a.add (i * 4 + 2)) = some (.int .i64 x.b) ∧ w.cell? (a.add (i * 4 + 3)) = some (.int .i64 x.c) ∧ inR x.b ∧ inR x.c := by
      intro i hi
      obtain ⟨cs', h1, h2⟩ := hcell i (by omega)
      rw [cells_line] at h1
      obtain ⟨_, hcl, hc⟩ := World.cells?_some h1
      obtain ⟨y0, y1, y2, y3, k, _, _, g0, g1, g2, g3⟩ := Go.Joins.trod_struct4 Try.underlying55 h2
      obtain ⟨u0, u1, u2, u3, rfl⟩ : ∃ u0 u1 u2 u3, cs' = [u0, u1, u2, u3] := by
        clear g0 g1 g2 g3 hc h1 h2
        match cs', hcl with
        | [u0, u1, u2, u3], _ => exact ⟨u0, u1, u2, u3, rfl⟩
      simp [cells_int] at g0 g1 g2 g3
      obtain ⟨n0, e0, _, r0⟩ := DataW.trod_int Try.underlying3 g0
      obtain ⟨n1, e1, _, r1⟩ := DataW.trod_int Try.underlying3 g1
      obtain ⟨n2, e2, _, r2⟩ := DataW.trod_int Try.underlying3 g2
      obtain ⟨n3, e3, _, r3⟩ := DataW.trod_int Try.underlying3 g3
      simp only [List.cons.injEq, and_true] at e0 e1 e2 e3
      subst e0 e1 e2 e3
      have c0 := hc 0 (by omega)
      have c1 := hc 1 (by omega)
      have c2 := hc 2 (by omega)
      have c3 := hc 3 (by omega)
      rw [add_add] at c0 c1 c2 c3
      exact ⟨⟨n0, n1, n2, n3⟩, by simpa using c0, by simpa using c1, by simpa using c2, by simpa using c3, r2, r3⟩
    obtain ⟨q, hq⟩ := choose_lt each
    have hget : ∀ i, i < len → ((List.range len).map q).getD i default = q i := fun i hi => by simp [hi]
    refine ⟨(List.range len).map q, ?_, by simpa using hlen, fun i hi => ?_⟩
    · by_cases h0 : len = 0
      · subst h0; exact .inl ⟨rfl, _, _, rfl, hm, fun h => by cases h⟩
      · obtain ⟨b, o, spot⟩ := a
        have hc0 := (hq 0 (by omega)).1
        have hspot : spot = none := by simpa [Addr.add] using World.cell?_spot hc0
        subst hspot
        refine .inr ⟨by simpa using h0, b, o, cap, by simp, by simpa using hl, hm, fun i hi => ?_⟩
        have hi' : i < len := by simpa using hi
        rw [hget i hi']
        obtain ⟨c0, c1, c2, c3, _⟩ := hq i hi'
        rw [Addr.add_lit] at c0 c1 c2 c3
        exact ⟨c0, c1, c2, c3⟩
    · have hi' : i < len := by simpa using hi
      rw [hget i hi']
      exact ⟨(hq i hi').2.2.2.2.1, (hq i hi').2.2.2.2.2⟩

/-- The whole. -/
theorem open_little {cs : Array Value} {d : DataW H} {ps : List MemPlace} (h : DataW.Trod enc Try.prog w base spare held 25 (.agg cs) d ps) (hs : Small Try.prog 25 d) :
    ∃ (sw st : Value) (p : Lt), cs = #[sw, st] ∧ PHas w sw st p ∧ PIn p ∧ p.words.length ≤ 281474976710656 ∧ p.threads.length ≤ 281474976710656 ∧ ∀ k, (p.threads.getD k []).length ≤ 281474976710656 := by
  obtain ⟨fuel, hf⟩ := h
  obtain ⟨y0, y1, n, hx, hl, g0, g1⟩ := trod_struct2 Try.underlying25 hf
  rw [cells_little] at hl
  obtain ⟨cl⟩ := cs
  have hcl : cl.length = 2 := hl
  obtain ⟨sw, st, rfl⟩ : ∃ sw st, cl = [sw, st] := by
    clear hf g0 g1 hl
    match cl, hcl with
    | [a, b], _ => exact ⟨a, b, rfl⟩
  have k0 : DataW.trod enc Try.prog w base spare held n 22 [sw] = some y0 := by
    simp only [Value.cells, List.drop_zero, cells_ints] at g0
    simpa using g0
  have k1 : DataW.trod enc Try.prog w base spare held n 23 [st] = some y1 := by
    simp only [Value.cells, cells_threads] at g1
    simpa using g1
  clear g0 g1 hf
  obtain ⟨d0, p0⟩ := y0
  obtain ⟨d1, p1⟩ := y1
  obtain ⟨rfl, _⟩ := Prod.mk.inj hx
  have hs0 : Small Try.prog 22 d0 := fun x hx => hs x (by
    simp only [DataW.weights, Try.underlying25, DataW.weightsEach, List.map_cons, List.mem_append]
    exact .inl hx)
  have hs1 : Small Try.prog 23 d1 := fun x hx => hs x (by
    simp only [DataW.weights, Try.underlying25, DataW.weightsEach, List.map_cons, List.mem_append]
    exact .inr (.inl hx))
  have hsw : sw.cells.toList = [sw] := by
    rcases open_slice Try.underlying22 k0 with ⟨hv, _⟩ | ⟨a, len, cap, m, n, D, Pl, hv, _⟩
    · obtain rfl : sw = .slice none 0 0 := by simpa using hv
      rfl
    · obtain rfl : sw = .slice (some a) len cap := by simpa using hv
      rfl
  have hst : st.cells.toList = [st] := by
    rcases open_slice Try.underlying23 k1 with ⟨hv, _⟩ | ⟨a, len, cap, m, n, D, Pl, hv, _⟩
    · obtain rfl : st = .slice none 0 0 := by simpa using hv
      rfl
    · obtain rfl : st = .slice (some a) len cap := by simpa using hv
      rfl
  obtain ⟨xs, hw, hwb, hwr⟩ := open_ints' Try.underlying22 Try.underlying3 cells_int ⟨n, by rw [hsw]; exact k0⟩ hsw hs0
  obtain ⟨len, k, V, D, hr, hb, hx⟩ := open_row Try.underlying23 cells_lines ⟨n, by rw [hst]; exact k1⟩ hst hs1
  rw [bytes_int] at hwb
  rw [bytes_lines] at hb
  obtain ⟨q, hq⟩ := choose_lt (fun i hi => by
    obtain ⟨⟨Pl, hp⟩, hsm⟩ := hx i hi
    exact open_lines hp hsm)
  have hget : ∀ i, i < len → ((List.range len).map q).getD i [] = q i := fun i hi => by simp [hi]
  have hrb : reachBytes = 0x7ffffffff000 := rfl
  refine ⟨sw, st, ⟨xs, (List.range len).map q⟩, rfl, ⟨hw, V, by simpa using hr, fun i hi => ?_⟩, ⟨fun i => ?_, fun i hi j hj => ?_⟩, by dsimp only; omega, by simp; omega, fun i => ?_⟩
  · have hi' : i < len := by simpa using hi
    rw [hget i hi']
    exact (hq i hi').1
  · show inR (g xs i)
    by_cases hi : i < xs.length
    · have : g xs i = xs[i] := by simp [g, List.getD_eq_getElem?_getD, hi]
      rw [this]
      exact hwr _ (List.getElem_mem hi)
    · have : g xs i = 0 := by simp [g, List.getD_eq_getElem?_getD, List.getElem?_eq_none (Nat.le_of_not_lt hi)]
      rw [this]
      exact inR_zero
  · have hi' : i < len := by simpa using hi
    dsimp only at hj ⊢
    rw [hget i hi'] at hj ⊢
    exact (hq i hi').2.2 j hj
  · dsimp only
    by_cases hi : i < len
    · rw [hget i hi]
      have := (hq i hi).2.1
      omega
    · have : ((List.range len).map q).getD i [] = [] := by simp [List.getD_eq_getElem?_getD, Nat.le_of_not_lt hi]
      rw [this]; simp
end Go.Proofs.Ytmpgjnindbklaaa
