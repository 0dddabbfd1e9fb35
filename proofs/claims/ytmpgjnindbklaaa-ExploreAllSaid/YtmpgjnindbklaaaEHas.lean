import Derived.WalkKit
import Derived.Test.YtmpgjnindbklaaaBase
import Derived.Test.YtmpgjnindbklaaaRows
import Derived.BigQuiet
/-! Little programs (layer 27), in plain Lean: what a step of a thread does to a flat list of numbers; all states that steps come to. No program in sight. -/
namespace Go.Proofs.Ytmpgjnindbklaaa.Ex

structure Ln where
  op : Int
  a : Int
  b : Int
  c : Int
  deriving DecidableEq, Inhabited

structure Lt where
  words : List Int
  threads : List (List Ln)

abbrev w64 (x : Int) : Int := Go.RowKit.wrap64 x
def g (l : List Int) (i : Nat) : Int := l.getD i 0

def reg (n : Int) : Bool := decide (0 ≤ n) && decide (n < 4)
def word (m : Nat) (n : Int) : Bool := decide (0 ≤ n) && decide (n < (m : Int))
def place (m : Nat) (n : Int) : Bool := decide (0 ≤ n) && decide (n ≤ (m : Int))

/-- Can a line be, in a program of 'n' words, in a thread of so many lines? -/
def lineOK (n lines : Nat) (x : Ln) : Bool :=
  if x.op = 1 ∨ x.op = 3 ∨ x.op = 4 then reg x.a && word n x.b
  else if x.op = 2 then word n x.a && reg x.b
  else if x.op = 5 then word n x.a && reg x.b && reg x.c
  else if x.op = 6 ∨ x.op = 10 then reg x.a
  else if x.op = 7 then reg x.a && reg x.b
  else if x.op = 8 then reg x.a && place lines x.c
  else if x.op = 9 then place lines x.c
  else false

def check (p : Lt) : Bool :=
  decide (p.words.length ≠ 0) && decide (p.words.length ≤ 8) && decide (p.threads.length ≠ 0) && decide (p.threads.length ≤ 4) &&
    p.threads.all fun t => decide (t.length ≤ 40) && t.all (lineOK p.words.length t.length)

/-- A state: 8 words, 4 lines, 4 times 4 registers; whether it is bad. -/
structure St where
  c : List Int
  bad : Bool
  deriving DecidableEq, Inhabited

def first (p : Lt) : St := ⟨p.words ++ List.replicate (28 - p.words.length) 0, false⟩

/-- What a line does to a thread's own registers (they begin at 'r'), to where it is, and whether it is bad. -/
def own (c : List Int) (r : Nat) (l : Ln) (at' : Int) : List Int × Int × Bool :=
  if l.op = 6 then (c.set (r + l.a.toNat) l.b, w64 (at' + 1), false)
  else if l.op = 7 then (c.set (r + l.a.toNat) (w64 (g c (r + l.b.toNat) + l.c)), w64 (at' + 1), false)
  else if l.op = 8 then (c, if g c (r + l.a.toNat) = l.b then l.c else w64 (at' + 1), false)
  else if l.op = 9 then (c, l.c, false)
  else if l.op = 10 then (c, w64 (at' + 1), decide (g c (r + l.a.toNat) ≠ l.b))
  else (c, w64 (at' + 1), false)

/-- What a line does to words and registers. -/
def shared (c : List Int) (r : Nat) (l : Ln) : List Int :=
  if l.op = 1 then c.set (r + l.a.toNat) (g c l.b.toNat)
  else if l.op = 2 then c.set l.a.toNat (g c (r + l.b.toNat))
  else if l.op = 3 then (c.set (r + l.a.toNat) (g c l.b.toNat)).set l.b.toNat (w64 (g c l.b.toNat + l.c))
  else if l.op = 4 then (c.set (r + l.a.toNat) (g c l.b.toNat)).set l.b.toNat (g c (r + l.a.toNat))
  else if l.op = 5 then (if g c l.a.toNat = g c (r + l.b.toNat) then (c.set l.a.toNat (g c (r + l.c.toNat))).set (r + 3) 1 else c.set (r + 3) 0)
  else c

/-- The line that a thread is at; none: it is over. -/
def lineAt (p : Lt) (c : List Int) (k : Nat) : Option Ln :=
  match p.threads[k]? with
  | none => none
  | some t => if g c (8 + k) < (t.length : Int) then some (t.getD (g c (8 + k)).toNat default) else none

/-- A step of a thread; none: it can't be. -/
def step (p : Lt) (s : St) (k : Nat) : Option St :=
  if s.bad then none else
  match lineAt p s.c k with
  | none => none
  | some l =>
    let o := own (shared s.c (12 + 4 * k) l) (12 + 4 * k) l (g s.c (8 + k))
    some ⟨o.1.set (8 + k) o.2.1, o.2.2⟩

def over (p : Lt) (s : St) : Bool :=
  (List.range p.threads.length).all (fun k => decide (((p.threads.getD k []).length : Int) ≤ g s.c (8 + k))) && !s.bad

/-- The words, and the registers of each thread. -/
def row (p : Lt) (s : St) : List Int :=
  s.c.take p.words.length ++ (List.range p.threads.length).flatMap fun k => (s.c.drop (12 + 4 * k)).take 4

/-- The words, and of each thread where it is and its registers. -/
def full (p : Lt) (s : St) : List Int :=
  s.c.take p.words.length ++ (List.range p.threads.length).flatMap fun k => g s.c (8 + k) :: (s.c.drop (12 + 4 * k)).take 4

structure Met where
  s : St
  fr : Int
  by' : Int
  deriving DecidableEq, Inhabited

def most : Nat := 20000

/-- A thread's step out of the state 'i': none: too many. -/
def one (p : Lt) (i : Nat) (l : List Met) (k : Nat) : Option (List Met) :=
  match step p (l.getD i default).s k with
  | none => some l
  | some s => if s ∈ l.map (·.s) then some l else if l.length = most then none else some (l ++ [⟨s, i, k⟩])

def from' (p : Lt) (i : Nat) (l : List Met) (k : Nat) : Nat → Option (List Met)
  | 0 => some l
  | n + 1 => match one p i l k with
    | none => none
    | some l' => from' p i l' (k + 1) n

def goesOn (p : Lt) : Nat → Nat → List Met → Option (List Met)
  | 0, _, l => some l
  | n + 1, i, l => if i < l.length then
      match from' p i l 0 p.threads.length with
      | none => none
      | some l' => goesOn p n (i + 1) l'
    else some l

/-- All states that steps come to; none: too many. -/
def goes (p : Lt) : Option (List Met) := goesOn p (most + 1) 0 [⟨first p, -1, -1⟩]

/-- The turns that come to a state, the last one first. -/
def back (l : List Met) : Nat → Int → List Int
  | 0, _ => []
  | n + 1, k => if (l.getD k.toNat default).fr ≥ 0 then (l.getD k.toNat default).by' :: back l n (l.getD k.toNat default).fr else []

structure Fd where
  states : Int
  ends : Int
  bad : Bool
  turns : List Int
  deriving DecidableEq

/-- What is told of all states. -/
def told (p : Lt) (l : List Met) : Fd :=
  { states := l.length, ends := (l.filter fun m => over p m.s).length, bad := l.any (·.s.bad),
    turns := match l.findIdx? (·.s.bad) with
      | none => []
      | some i => (back l (l.length + 1) i).reverse }

/-- The states of turns, each where a thread could step. -/
def follow (p : Lt) : St → List Int → List St
  | _, [] => []
  | s, k :: ks => if 0 ≤ k then
      match step p s k.toNat with
      | none => follow p s ks
      | some s' => s' :: follow p s' ks
    else follow p s ks

end Go.Proofs.Ytmpgjnindbklaaa.Ex
namespace Go.Proofs.Ytmpgjnindbklaaa
open Go.RowKit BA Ex

def lnV (x : Ln) : Value := .agg #[.int .i64 x.op, .int .i64 x.a, .int .i64 x.b, .int .i64 x.c]

theorem ret1 {P : Program} {fn : Func} {d : Nat} {a : Act} {w : World} {v : Value} {R : Ending → World → Prop} (hr : fn.results = #[.tmp d]) (hd : a.defers = []) (hv : a.tmps.getD d undef = v) (h : R (.returned v) w) :
    bodyPost P fn R .ret a w := by
  subst hv
  exact bodyPost_ret (results_tmp hr _ _ _) hd h

set_option maxHeartbeats 1000000 in
theorem reg_walk (n : Int) (w : World) : Calls Try.prog 49 #[.int .i64 n] w fun e w' => e = .returned (.bool (reg n)) ∧ w' = w := by
  go_enter Try.func49, Try.ntmps49
  go_wp2
  all_goals (go_ret; refine ⟨congrArg (fun b => Ending.returned (.bool b)) ?_, rfl⟩; simp only [reg]; first | (simp_all; done) | (simp_all; omega))

set_option maxRecDepth 100000 in
set_option maxHeartbeats 4000000 in
theorem lineOK_walk (ao : Option Addr) (n c lines : Nat) (st : Value) (x : Ln) (w : World) :
    Calls Try.prog 34 #[.agg #[.slice ao n c, st], .agg #[.int .i64 x.op, .int .i64 x.a, .int .i64 x.b, .int .i64 x.c], .int .i64 lines] w fun e w' => e = .returned (.bool (lineOK n lines x)) ∧ Below w.heap.size w w' := by
  obtain ⟨op, a, b, k⟩ := x
  go_enter Try.func34, Try.ntmps34
  go_wp2_with (go_at_call 49; refine (reg_walk _ _).mono ?_; rintro e w' ⟨rfl, rfl⟩)
  all_goals (try go_ret)
  all_goals refine ⟨congrArg Ending.returned (show _ = Value.bool _ from congrArg Value.bool (?_ : _ = _)), ((Below.refl _ _).alloc (Nat.le_refl _) _).alloc (by simp) _⟩
  all_goals first
    | (simp_all [lineOK, word, place]; done)
    | (simp_all [lineOK, word, place]; omega)
end Go.Proofs.Ytmpgjnindbklaaa
/-! A little program as it lies in memory. -/
namespace Go.Proofs.Ytmpgjnindbklaaa
open Go.RowKit BA Ex

def ints (l : List Int) : List Value := l.map (Value.int .i64)

/-- A slice of lines, four cells each. -/
def Lines (w : World) (v : Value) (t : List Ln) : Prop :=
  (t = [] ∧ ∃ ao c, v = .slice ao 0 c ∧ c ≤ maxLen ∧ (ao = none → c = 0)) ∨
  (t ≠ [] ∧ ∃ b o c, v = .slice (some ⟨b, o, none⟩) t.length c ∧ t.length ≤ c ∧ c ≤ maxLen ∧ ∀ i, i < t.length →
    w.cell? ⟨b, o + i * 4, none⟩ = some (.int .i64 (t.getD i default).op) ∧ w.cell? ⟨b, o + i * 4 + 1, none⟩ = some (.int .i64 (t.getD i default).a) ∧
    w.cell? ⟨b, o + i * 4 + 2, none⟩ = some (.int .i64 (t.getD i default).b) ∧ w.cell? ⟨b, o + i * 4 + 3, none⟩ = some (.int .i64 (t.getD i default).c))

theorem Lines.shape {w : World} {v : Value} {t : List Ln} (h : Lines w v t) : ∃ ao c, v = .slice ao t.length c := by
  rcases h with ⟨rfl, ao, c, hv, _⟩ | ⟨_, b, o, c, hv, _⟩
  · exact ⟨ao, c, hv⟩
  · exact ⟨_, c, hv⟩

theorem Lines.same {w w' : World} {v : Value} {t : List Ln} (h : Lines w v t) (hb : ∀ k, k < w.heap.size → w'.heap[k]? = w.heap[k]?) : Lines w' v t := by
  rcases h with h | ⟨hne, b, o, c, rfl, h1, h2, h3⟩
  · exact .inl h
  · refine .inr ⟨hne, b, o, c, rfl, h1, h2, fun i hi => ?_⟩
    obtain ⟨q0, q1, q2, q3⟩ := h3 i hi
    have hw : w'.heap[b]? = w.heap[b]? := hb b (World.block_lt_of_cell? w _ q0)
    have hc : ∀ j, w'.cell? ⟨b, j, none⟩ = w.cell? ⟨b, j, none⟩ := fun j => World.cell?_of_block (a := ⟨b, j, none⟩) (w := w) hw
    exact ⟨(hc _).trans q0, (hc _).trans q1, (hc _).trans q2, (hc _).trans q3⟩

/-- The cells of a line. -/
theorem Lines.at' {w : World} {v : Value} {t : List Ln} (h : Lines w v t) {i : Nat} (hi : i < t.length) :
    ∃ b o c, v = .slice (some ⟨b, o, none⟩) t.length c ∧ b < w.heap.size ∧
      w.cell? ⟨b, o + i * 4, none⟩ = some (.int .i64 (t.getD i default).op) ∧ w.cell? ⟨b, o + i * 4 + 1, none⟩ = some (.int .i64 (t.getD i default).a) ∧
      w.cell? ⟨b, o + i * 4 + 2, none⟩ = some (.int .i64 (t.getD i default).b) ∧ w.cell? ⟨b, o + i * 4 + 3, none⟩ = some (.int .i64 (t.getD i default).c) := by
  rcases h with ⟨rfl, _⟩ | ⟨hne, b, o, c, rfl, h1, h2, h3⟩
  · simp at hi
  · obtain ⟨q0, q⟩ := h3 i hi
    exact ⟨b, o, c, rfl, World.block_lt_of_cell? w _ q0, q0, q⟩

/-- A slice of slices of lines. -/
def Threads (w : World) (v : Value) (ts : List (List Ln)) : Prop :=
  ∃ V : Nat → Value, Reads w v ((List.range ts.length).map V) ∧ ∀ k, k < ts.length → Lines w (V k) (ts.getD k [])

theorem Threads.same {w w' : World} {v : Value} {ts : List (List Ln)} (h : Threads w v ts) (hb : ∀ k, k < w.heap.size → w'.heap[k]? = w.heap[k]?) : Threads w' v ts := by
  obtain ⟨V, h1, h2⟩ := h
  exact ⟨V, h1.same fun k _ hk => hb k hk, fun k hk => (h2 k hk).same hb⟩

theorem Threads.shape {w : World} {v : Value} {ts : List (List Ln)} (h : Threads w v ts) : ∃ ao c, v = .slice ao ts.length c := by
  obtain ⟨V, h1, _⟩ := h
  obtain ⟨ao, c, hv⟩ := h1.shape
  exact ⟨ao, c, by simpa using hv⟩

/-- A thread of a program: the cell that holds its slice. -/
theorem Threads.at' {w : World} {v : Value} {ts : List (List Ln)} (h : Threads w v ts) {k : Nat} (hk : k < ts.length) :
    ∃ b o c tv, v = .slice (some ⟨b, o, none⟩) ts.length c ∧ b < w.heap.size ∧ w.cell? ⟨b, o + k, none⟩ = some tv ∧ Lines w tv (ts.getD k []) := by
  obtain ⟨V, h1, h2⟩ := h
  rcases h1 with ⟨h0, _⟩ | ⟨hne, b, o, c, hv, _, _, h3⟩
  · simp only [List.map_eq_nil_iff, List.range_eq_nil] at h0
    omega
  · have hc := h3 k (V k) (by simp [hk])
    exact ⟨b, o, c, V k, by simpa using hv, World.block_lt_of_cell? w _ hc, hc, h2 k hk⟩

/-- A little program, as a value: its words, its threads. -/
structure PHas (w : World) (sw st : Value) (p : Lt) : Prop where
  words : Reads w sw (ints p.words)
  threads : Threads w st p.threads

theorem PHas.same {w w' : World} {sw st : Value} {p : Lt} (h : PHas w sw st p) (hb : ∀ k, k < w.heap.size → w'.heap[k]? = w.heap[k]?) : PHas w' sw st p :=
  ⟨h.words.same fun k _ hk => hb k hk, h.threads.same hb⟩
theorem PHas.below {w w' : World} {sw st : Value} {p : Lt} (h : PHas w sw st p) (hb : Below w.heap.size w w') : PHas w' sw st p := h.same fun k hk => hb.block k hk
theorem PHas.words_shape {w : World} {sw st : Value} {p : Lt} (h : PHas w sw st p) : ∃ ao c, sw = .slice ao p.words.length c := by
  obtain ⟨ao, c, hv⟩ := h.words.shape
  exact ⟨ao, c, by simpa [ints] using hv⟩

/-- How 'Check' goes over threads and lines. -/
def linesTo (p : Lt) (t : List Ln) (i : Nat) : Prop := ∀ j, j < i → lineOK p.words.length t.length (t.getD j default) = true
def threadsTo (p : Lt) (k : Nat) : Prop := ∀ j, j < k → (p.threads.getD j []).length ≤ 40 ∧ linesTo p (p.threads.getD j []) (p.threads.getD j []).length

theorem all_getD {α : Type} [Inhabited α] (l : List α) (f : α → Bool) : l.all f = true ↔ ∀ j, j < l.length → f (l.getD j default) = true := by
  rw [List.all_eq_true]
  constructor
  · intro h j hj
    have : l.getD j default = l[j] := by simp [hj]
    rw [this]
    exact h _ (List.getElem_mem hj)
  · intro h x hx
    obtain ⟨j, hj, rfl⟩ := List.getElem_of_mem hx
    have := h j hj
    simpa [hj] using this

theorem check_iff (p : Lt) : check p = true ↔ (p.words.length ≠ 0 ∧ p.words.length ≤ 8 ∧ p.threads.length ≠ 0 ∧ p.threads.length ≤ 4) ∧ threadsTo p p.threads.length := by
  simp only [check, Bool.and_eq_true, decide_eq_true_eq, all_getD, threadsTo, linesTo]
  constructor
  · rintro ⟨⟨⟨⟨h1, h2⟩, h3⟩, h4⟩, h5⟩
    exact ⟨⟨h1, h2, h3, h4⟩, fun j hj => h5 j hj⟩
  · rintro ⟨⟨h1, h2, h3, h4⟩, h5⟩
    exact ⟨⟨⟨⟨h1, h2⟩, h3⟩, h4⟩, fun j hj => h5 j hj⟩

theorem check_line {p : Lt} {k i : Nat} (hk : k < p.threads.length) (hi : i < (p.threads.getD k []).length) (h : lineOK p.words.length (p.threads.getD k []).length ((p.threads.getD k []).getD i default) = false) : check p = false := by
  rw [← Bool.not_eq_true, check_iff]
  rintro ⟨_, h2⟩
  have := (h2 k hk).2 i hi
  rw [h] at this
  cases this
theorem check_long {p : Lt} {k : Nat} (hk : k < p.threads.length) (h : 40 < (p.threads.getD k []).length) : check p = false := by
  rw [← Bool.not_eq_true, check_iff]
  rintro ⟨_, h2⟩
  have := (h2 k hk).1
  omega
end Go.Proofs.Ytmpgjnindbklaaa
