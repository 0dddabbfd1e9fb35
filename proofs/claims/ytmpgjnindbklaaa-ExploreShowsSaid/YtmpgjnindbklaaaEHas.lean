import Derived.Test.YtmpgjnindbklaaaERef1
/-! A little program as it lies in memory. -/
namespace Go.Proofs.Ytmpgjnindbklaaa
open Go.RowKit BA Ex

def ints (l : List Int) : List Value := l.map (Value.int .i64)

/-- A slice of lines, four cells each. -/
def Lines (w : World) (v : Value) (t : List Ln) : Prop :=
  (t = [] ∧ ∃ ao c, v = .slice ao 0 c ∧ c ≤ maxLen ∧ (ao = none → c = 0)) ∨
  (t ≠ [] ∧ ∃ b o c, v = .slice (some ⟨b, o, none⟩) t.length c ∧ t.length ≤ c ∧ c ≤ maxLen ∧ ∀ i, i < t.length →
    w.cell? ⟨b, o + i * 4, none⟩ = some (.int .i64 (t.getD i default).op) ∧ w.cell? ⟨b, o + i * 4 + 1, none⟩ = some (.int .i64 (t.getD i default).a) ∧
    w.cell? ⟨b, o + i * 4 + 2, none⟩ = some (.int .i64 (t.getD i default).b) ∧ w.cell? ⟨b, o + i * 4 + 3, none⟩ = some (.int .i64 (t.getD i default).c))

theorem Lines.shape {w : World} {v : Value} {t : List Ln} (h : Lines w v t) : ∃ ao c, v = .slice ao t.length c := by
  rcases h with ⟨rfl, ao, c, hv, _⟩ | ⟨_, b, o, c, hv, _⟩
  · exact ⟨ao, c, hv⟩
  · exact ⟨_, c, hv⟩

theorem Lines.same {w w' : World} {v : Value} {t : List Ln} (h : Lines w v t) (hb : ∀ k, k < w.heap.size → w'.heap[k]? = w.heap[k]?) : Lines w' v t := by
  rcases h with h | ⟨hne, b, o, c, rfl, h1, h2, h3⟩
  · exact .inl h
  · refine .inr ⟨hne, b, o, c, rfl, h1, h2, fun i hi => ?_⟩
    obtain ⟨q0, q1, q2, q3⟩ := h3 i hi
    have hw : w'.heap[b]? = w.heap[b]? := hb b (World.block_lt_of_cell? w _ q0)
    have hc : ∀ j, w'.cell? ⟨b, j, none⟩ = w.cell? ⟨b, j, none⟩ := fun j => World.cell?_of_block (a := ⟨b, j, none⟩) (w := w) hw
    exact ⟨(hc _).trans q0, (hc _).trans q1, (hc _).trans q2, (hc _).trans q3⟩

/-- The cells of a line. -/
theorem Lines.at' {w : World} {v : Value} {t : List Ln} (h : Lines w v t) {i : Nat} (hi : i < t.length) :
    ∃ b o c, v = .slice (some ⟨b, o, none⟩) t.length c ∧ b < w.heap.size ∧
      w.cell? ⟨b, o + i * 4, none⟩ = some (.int .i64 (t.getD i default).op) ∧ w.cell? ⟨b, o + i * 4 + 1, none⟩ = some (.int .i64 (t.getD i default).a) ∧
      w.cell? ⟨b, o + i * 4 + 2, none⟩ = some (.int .i64 (t.getD i default).b) ∧ w.cell? ⟨b, o + i * 4 + 3, none⟩ = some (.int .i64 (t.getD i default).c) := by
  rcases h with ⟨rfl, _⟩ | ⟨hne, b, o, c, rfl, h1, h2, h3⟩
  · simp at hi
  · obtain ⟨q0, q⟩ := h3 i hi
    exact ⟨b, o, c, rfl, World.block_lt_of_cell? w _ q0, q0, q⟩

/-- A slice of slices of lines. -/
def Threads (w : World) (v : Value) (ts : List (List Ln)) : Prop :=
  ∃ V : Nat → Value, Reads w v ((List.range ts.length).map V) ∧ ∀ k, k < ts.length → Lines w (V k) (ts.getD k [])

theorem Threads.same {w w' : World} {v : Value} {ts : List (List Ln)} (h : Threads w v ts) (hb : ∀ k, k < w.heap.size → w'.heap[k]? = w.heap[k]?) : Threads w' v ts := by
  obtain ⟨V, h1, h2⟩ := h
  exact ⟨V, h1.same fun k _ hk => hb k hk, fun k hk => (h2 k hk).same hb⟩

theorem Threads.shape {w : World} {v : Value} {ts : List (List Ln)} (h : Threads w v ts) : ∃ ao c, v = .slice ao ts.length c := by
  obtain ⟨V, h1, _⟩ := h
  obtain ⟨ao, c, hv⟩ := h1.shape
  exact ⟨ao, c, by simpa using hv⟩

/-- A thread of a program: the cell that holds its slice. -/
theorem Threads.at' {w : World} {v : Value} {ts : List (List Ln)} (h : Threads w v ts) {k : Nat} (hk : k < ts.length) :
    ∃ b o c tv, v = .slice (some ⟨b, o, none⟩) ts.length c ∧ b < w.heap.size ∧ w.cell? ⟨b, o + k, none⟩ = some tv ∧ Lines w tv (ts.getD k []) := by
  obtain ⟨V, h1, h2⟩ := h
  rcases h1 with ⟨h0, _⟩ | ⟨hne, b, o, c, hv, _, _, h3⟩
  · simp only [List.map_eq_nil_iff, List.range_eq_nil] at h0
    omega
  · have hc := h3 k (V k) (by simp [hk])
    exact ⟨b, o, c, V k, by simpa using hv, World.block_lt_of_cell? w _ hc, hc, h2 k hk⟩

/-- A little program, as a value: its words, its threads. -/
structure PHas (w : World) (sw st : Value) (p : Lt) : Prop where
  words : Reads w sw (ints p.words)
  threads : Threads w st p.threads

theorem PHas.same {w w' : World} {sw st : Value} {p : Lt} (h : PHas w sw st p) (hb : ∀ k, k < w.heap.size → w'.heap[k]? = w.heap[k]?) : PHas w' sw st p :=
  ⟨h.words.same fun k _ hk => hb k hk, h.threads.same hb⟩
theorem PHas.below {w w' : World} {sw st : Value} {p : Lt} (h : PHas w sw st p) (hb : Below w.heap.size w w') : PHas w' sw st p := h.same fun k hk => hb.block k hk
theorem PHas.words_shape {w : World} {sw st : Value} {p : Lt} (h : PHas w sw st p) : ∃ ao c, sw = .slice ao p.words.length c := by
  obtain ⟨ao, c, hv⟩ := h.words.shape
  exact ⟨ao, c, by simpa [ints] using hv⟩

/-- How 'Check' goes over threads and lines. -/
def linesTo (p : Lt) (t : List Ln) (i : Nat) : Prop := ∀ j, j < i → lineOK p.words.length t.length (t.getD j default) = true
def threadsTo (p : Lt) (k : Nat) : Prop := ∀ j, j < k → (p.threads.getD j []).length ≤ 40 ∧ linesTo p (p.threads.getD j []) (p.threads.getD j []).length

theorem all_getD {α : Type} [Inhabited α] (l : List α) (f : α → Bool) : l.all f = true ↔ ∀ j, j < l.length → f (l.getD j default) = true := by
  rw [List.all_eq_true]
  constructor
  · intro h j hj
    have : l.getD j default = l[j] := by simp [hj]
    rw [this]
    exact h _ (List.getElem_mem hj)
  · intro h x hx
    obtain ⟨j, hj, rfl⟩ := List.getElem_of_mem hx
    have := h j hj
    simpa [hj] using this

theorem check_iff (p : Lt) : check p = true ↔ (p.words.length ≠ 0 ∧ p.words.length ≤ 8 ∧ p.threads.length ≠ 0 ∧ p.threads.length ≤ 4) ∧ threadsTo p p.threads.length := by
  simp only [check, Bool.and_eq_true, decide_eq_true_eq, all_getD, threadsTo, linesTo]
  constructor
  · rintro ⟨⟨⟨⟨h1, h2⟩, h3⟩, h4⟩, h5⟩
    exact ⟨⟨h1, h2, h3, h4⟩, fun j hj => h5 j hj⟩
  · rintro ⟨⟨h1, h2, h3, h4⟩, h5⟩
    exact ⟨⟨⟨⟨h1, h2⟩, h3⟩, h4⟩, fun j hj => h5 j hj⟩

theorem check_line {p : Lt} {k i : Nat} (hk : k < p.threads.length) (hi : i < (p.threads.getD k []).length) (h : lineOK p.words.length (p.threads.getD k []).length ((p.threads.getD k []).getD i default) = false) : check p = false := by
  rw [← Bool.not_eq_true, check_iff]
  rintro ⟨_, h2⟩
  have := (h2 k hk).2 i hi
  rw [h] at this
  cases this
theorem check_long {p : Lt} {k : Nat} (hk : k < p.threads.length) (h : 40 < (p.threads.getD k []).length) : check p = false := by
  rw [← Bool.not_eq_true, check_iff]
  rintro ⟨_, h2⟩
  have := (h2 k hk).1
  omega
end Go.Proofs.Ytmpgjnindbklaaa
