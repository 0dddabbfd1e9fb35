/-
  The walk of TurnFair, its cases joined.
-/
import Derived.Test.YtkeipanehjjmdaaTFair
import Derived.Handed
namespace Go.Proofs.Ytkeipanehjjmdaa
open Go.RowKit BA TU
theorem turnFair_walk (tv : Value) (ts : List Int) (rv : Value) (l : List Bool) (r : Int) (w : World) (ht : Reads w tv (ts.map (Value.int .i64))) (x1 : ts.length * 8 ≤ reachBytes) (hr : Reads w rv (bools l)) (x2 : l.length * 1 ≤ reachBytes)
    (_ : (Lit.int .i64 r).wf = true) :
    Calls Try.prog 4 #[tv, rv, .int .i64 r] w fun e w' => e = .returned (.bool true) ∧ Below w.heap.size w w' := by
  have hb : reachBytes = 140737488351232 := rfl
  by_cases h : tot ts [l] ≤ 20000
  · by_cases hrr : r < 0 ∨ 20 < r
    · exact turnFair_round tv rv ts l r w ht hr (by omega) (by omega) h hrr
    · exact turnFair_small tv rv ts l r w ht hr h (by omega) (by omega)
  · exact turnFair_big tv rv ts l r w ht hr (by omega) (by omega) h
end Go.Proofs.Ytkeipanehjjmdaa
