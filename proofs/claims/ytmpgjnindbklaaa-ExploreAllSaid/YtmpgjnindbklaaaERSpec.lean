import Derived.Test.YtmpgjnindbklaaaEWf
/-! A step of the document's program on its own flat state: words; of each thread the line and four registers; 1 at the end, if it is bad. No program in sight. -/
namespace Go.Proofs.Ytmpgjnindbklaaa.Ex
open Go.Proofs.Ytmpgjnindbklaaa

def fnext (xs : List Int) (b : Nat) (x : Ln) : Int :=
  if x.op = 8 then (if g xs (b + 1 + x.a.toNat) = x.b then x.c else w64 (g xs b + 1))
  else if x.op = 9 then x.c else w64 (g xs b + 1)
def fout (xs : List Int) (b : Nat) (x : Ln) : List Int :=
  if x.op = 1 then xs.set (b + 1 + x.a.toNat) (g xs x.b.toNat)
  else if x.op = 2 then xs.set x.a.toNat (g xs (b + 1 + x.b.toNat))
  else if x.op = 3 then (xs.set (b + 1 + x.a.toNat) (g xs x.b.toNat)).set x.b.toNat (w64 (g xs x.b.toNat + x.c))
  else if x.op = 4 then (xs.set (b + 1 + x.a.toNat) (g xs x.b.toNat)).set x.b.toNat (g xs (b + 1 + x.a.toNat))
  else if x.op = 5 then (if g xs x.a.toNat = g xs (b + 1 + x.b.toNat) then (xs.set x.a.toNat (g xs (b + 1 + x.c.toNat))).set (b + 1 + 3) 1 else xs.set (b + 1 + 3) 0)
  else if x.op = 6 then xs.set (b + 1 + x.a.toNat) x.b
  else if x.op = 7 then xs.set (b + 1 + x.a.toNat) (w64 (g xs (b + 1 + x.b.toNat) + x.c))
  else if x.op = 10 then (if g xs (b + 1 + x.a.toNat) = x.b then xs else xs.set (xs.length - 1) 1)
  else xs
def fstep (xs : List Int) (b : Nat) (x : Ln) : List Int := (fout xs b x).set b (fnext xs b x)

/-- A state as the document has it. -/
def flat (p : Lt) (s : St) : List Int := full p s ++ [if s.bad then 1 else 0]

theorem fout_len (xs : List Int) (b : Nat) (x : Ln) : (fout xs b x).length = xs.length := by
  unfold fout
  repeat' split
  all_goals simp
theorem fstep_len (xs : List Int) (b : Nat) (x : Ln) : (fstep xs b x).length = xs.length := by
  unfold fstep; rw [List.length_set, fout_len]
end Go.Proofs.Ytmpgjnindbklaaa.Ex
