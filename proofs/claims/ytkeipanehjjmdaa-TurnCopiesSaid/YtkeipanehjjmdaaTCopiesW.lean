/-
  The walk of TurnCopies, its cases joined.
-/
import Derived.Test.YtkeipanehjjmdaaTCopies
import Derived.Handed
namespace Go.Proofs.Ytkeipanehjjmdaa
open Go.RowKit BA TU
theorem turnCopies_walk (tv : Value) (ts : List Int) (bv : Value) (bs : List (List Bool)) (av : Value) (zs : List (List Bool)) (w : World) (ht : Reads w tv (ts.map (Value.int .i64))) (x1 : ts.length * 8 ≤ reachBytes) (hb : Grid w bv bs) (x2 : bs.length * 24 ≤ reachBytes)
    (x3 : ∀ l ∈ bs, l.length ≤ reachBytes) (ha : Grid w av zs) (x4 : zs.length * 24 ≤ reachBytes) (x5 : ∀ l ∈ zs, l.length ≤ reachBytes) :
    Calls Try.prog 5 #[tv, bv, av] w fun e w' => e = .returned (.bool true) ∧ Below w.heap.size w w' := by
  have hr : reachBytes = 140737488351232 := rfl
  by_cases h : tot ts bs ≤ 20000
  · by_cases h2 : tot [] zs ≤ 20000
    · exact turnCopies_small tv bv av ts bs zs w ht hb ha h h2
    · exact turnCopies_big2 tv bv av ts bs zs w ht hb ha (by omega) (by omega) (fun l hl => by have := x3 l hl; omega) (by omega) (fun l hl => by have := x5 l hl; omega) h h2
  · exact turnCopies_big tv bv av ts bs zs w ht hb ha (by omega) (by omega) (fun l hl => by have := x3 l hl; omega) (by omega) (fun l hl => by have := x5 l hl; omega) h
end Go.Proofs.Ytkeipanehjjmdaa
