/-
  Part 0 of the proof that CellOrders is true of every input of bulk at most 1048576.
-/
import Derived.KernelRfl
namespace Go
theorem zKR {p : Prop} (h : p := by kernel_rfl) : p := h
theorem zOM {p : Prop} (h : p := by omega) : p := h
theorem zAI {p q : Prop} (x : p) (y : q) : p ∧ q := ⟨x, y⟩
theorem zGE {α : Type} {xs : Array α} {i : Nat} {a : α} (h : xs[i]? = some a) : ∃ g, xs[i] = a := Array.getElem?_eq_some_iff.1 h
end Go
