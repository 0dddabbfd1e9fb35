import Derived.WalkKit
/-! Little programs (layer 27), in plain Lean: what a step of a thread does to a flat list of numbers; all states that steps come to. No program in sight. -/
namespace Go.Proofs.Ytmpgjnindbklaaa.Ex

structure Ln where
  op : Int
  a : Int
  b : Int
  c : Int
  deriving DecidableEq, Inhabited

structure Lt where
  words : List Int
  threads : List (List Ln)

abbrev w64 (x : Int) : Int := Go.RowKit.wrap64 x
def g (l : List Int) (i : Nat) : Int := l.getD i 0

def reg (n : Int) : Bool := decide (0 ≤ n) && decide (n < 4)
def word (m : Nat) (n : Int) : Bool := decide (0 ≤ n) && decide (n < (m : Int))
def place (m : Nat) (n : Int) : Bool := decide (0 ≤ n) && decide (n ≤ (m : Int))

/-- Can a line be, in a program of 'n' words, in a thread of so many lines? -/
def lineOK (n lines : Nat) (x : Ln) : Bool :=
  if x.op = 1 ∨ x.op = 3 ∨ x.op = 4 then reg x.a && word n x.b
  else if x.op = 2 then word n x.a && reg x.b
  else if x.op = 5 then word n x.a && reg x.b && reg x.c
  else if x.op = 6 ∨ x.op = 10 then reg x.a
  else if x.op = 7 then reg x.a && reg x.b
  else if x.op = 8 then reg x.a && place lines x.c
  else if x.op = 9 then place lines x.c
  else false

def check (p : Lt) : Bool :=
  decide (p.words.length ≠ 0) && decide (p.words.length ≤ 8) && decide (p.threads.length ≠ 0) && decide (p.threads.length ≤ 4) &&
    p.threads.all fun t => decide (t.length ≤ 40) && t.all (lineOK p.words.length t.length)

/-- A state: 8 words, 4 lines, 4 times 4 registers; whether it is bad. -/
structure St where
  c : List Int
  bad : Bool
  deriving DecidableEq, Inhabited

def first (p : Lt) : St := ⟨p.words ++ List.replicate (28 - p.words.length) 0, false⟩

/-- What a line does to a thread's own registers (they begin at 'r'), to where it is, and whether it is bad. -/
def own (c : List Int) (r : Nat) (l : Ln) (at' : Int) : List Int × Int × Bool :=
  if l.op = 6 then (c.set (r + l.a.toNat) l.b, w64 (at' + 1), false)
  else if l.op = 7 then (c.set (r + l.a.toNat) (w64 (g c (r + l.b.toNat) + l.c)), w64 (at' + 1), false)
  else if l.op = 8 then (c, if g c (r + l.a.toNat) = l.b then l.c else w64 (at' + 1), false)
  else if l.op = 9 then (c, l.c, false)
  else if l.op = 10 then (c, w64 (at' + 1), decide (g c (r + l.a.toNat) ≠ l.b))
  else (c, w64 (at' + 1), false)

/-- What a line does to words and registers. -/
def shared (c : List Int) (r : Nat) (l : Ln) : List Int :=
  if l.op = 1 then c.set (r + l.a.toNat) (g c l.b.toNat)
  else if l.op = 2 then c.set l.a.toNat (g c (r + l.b.toNat))
  else if l.op = 3 then (c.set (r + l.a.toNat) (g c l.b.toNat)).set l.b.toNat (w64 (g c l.b.toNat + l.c))
  else if l.op = 4 then (c.set (r + l.a.toNat) (g c l.b.toNat)).set l.b.toNat (g c (r + l.a.toNat))
  else if l.op = 5 then (if g c l.a.toNat = g c (r + l.b.toNat) then (c.set l.a.toNat (g c (r + l.c.toNat))).set (r + 3) 1 else c.set (r + 3) 0)
  else c

/-- The line that a thread is at; none: it is over. -/
def lineAt (p : Lt) (c : List Int) (k : Nat) : Option Ln :=
  match p.threads[k]? with
  | none => none
  | some t => if g c (8 + k) < (t.length : Int) then some (t.getD (g c (8 + k)).toNat default) else none

/-- A step of a thread; none: it can't be. -/
def step (p : Lt) (s : St) (k : Nat) : Option St :=
  if s.bad then none else
  match lineAt p s.c k with
  | none => none
  | some l =>
    let o := own (shared s.c (12 + 4 * k) l) (12 + 4 * k) l (g s.c (8 + k))
    some ⟨o.1.set (8 + k) o.2.1, o.2.2⟩

def over (p : Lt) (s : St) : Bool :=
  (List.range p.threads.length).all (fun k => decide (((p.threads.getD k []).length : Int) ≤ g s.c (8 + k))) && !s.bad

/-- The words, and the registers of each thread. -/
def row (p : Lt) (s : St) : List Int :=
  s.c.take p.words.length ++ (List.range p.threads.length).flatMap fun k => (s.c.drop (12 + 4 * k)).take 4

/-- The words, and of each thread where it is and its registers. -/
def full (p : Lt) (s : St) : List Int :=
  s.c.take p.words.length ++ (List.range p.threads.length).flatMap fun k => g s.c (8 + k) :: (s.c.drop (12 + 4 * k)).take 4

structure Met where
  s : St
  fr : Int
  by' : Int
  deriving DecidableEq, Inhabited

def most : Nat := 20000

/-- A thread's step out of the state 'i': none: too many. -/
def one (p : Lt) (i : Nat) (l : List Met) (k : Nat) : Option (List Met) :=
  match step p (l.getD i default).s k with
  | none => some l
  | some s => if s ∈ l.map (·.s) then some l else if l.length = most then none else some (l ++ [⟨s, i, k⟩])

def from' (p : Lt) (i : Nat) (l : List Met) (k : Nat) : Nat → Option (List Met)
  | 0 => some l
  | n + 1 => match one p i l k with
    | none => none
    | some l' => from' p i l' (k + 1) n

def goesOn (p : Lt) : Nat → Nat → List Met → Option (List Met)
  | 0, _, l => some l
  | n + 1, i, l => if i < l.length then
      match from' p i l 0 p.threads.length with
      | none => none
      | some l' => goesOn p n (i + 1) l'
    else some l

/-- All states that steps come to; none: too many. -/
def goes (p : Lt) : Option (List Met) := goesOn p (most + 1) 0 [⟨first p, -1, -1⟩]

/-- The turns that come to a state, the last one first. -/
def back (l : List Met) : Nat → Int → List Int
  | 0, _ => []
  | n + 1, k => if (l.getD k.toNat default).fr ≥ 0 then (l.getD k.toNat default).by' :: back l n (l.getD k.toNat default).fr else []

structure Fd where
  states : Int
  ends : Int
  bad : Bool
  turns : List Int
  deriving DecidableEq

/-- What is told of all states. -/
def told (p : Lt) (l : List Met) : Fd :=
  { states := l.length, ends := (l.filter fun m => over p m.s).length, bad := l.any (·.s.bad),
    turns := match l.findIdx? (·.s.bad) with
      | none => []
      | some i => (back l (l.length + 1) i).reverse }

/-- The states of turns, each where a thread could step. -/
def follow (p : Lt) : St → List Int → List St
  | _, [] => []
  | s, k :: ks => if 0 ≤ k then
      match step p s k.toNat with
      | none => follow p s ks
      | some s' => s' :: follow p s' ks
    else follow p s ks

end Go.Proofs.Ytmpgjnindbklaaa.Ex
