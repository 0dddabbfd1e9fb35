/-
  What came in, as the walks want it: a slice that is read as data, as a row of values; how much it may weigh. No program in sight.
-/
import Derived.Test.YtmpgjnindbklaaaBase
import Derived.Deep.Slices
import Derived.SizedLaws
import Derived.ProofKit
namespace Go.Proofs.Ytmpgjnindbklaaa.BA
open Go.RowKit Go.Deep
variable {H : Type} {enc : TypeId × Value → H} {P : Program} {w : World} {base : Nat} {spare : Nat → Bool} {held : Bool}
/-- No string, slice or map in it takes more than the form's reach. -/
def Small (P : Program) (t : TypeId) (d : DataW H) : Prop := ∀ n ∈ d.weights P t, n ≤ reachBytes
theorem small_of {ts : List TypeId} {ds : List (DataW H)} (h : (DataW.weightsEach P ts ds).all (· ≤ reachBytes) = true) {j : Nat} {t : TypeId} {d : DataW H} (ht : ts[j]? = some t) (hd : ds[j]? = some d) : Small P t d := fun n hn => by
  have := List.all_eq_true.1 h n (DataW.weights_mem_each ht hd n hn)
  simpa using this
theorem weights_mem_all {e : TypeId} : ∀ {ds : List (DataW H)} {d : DataW H}, d ∈ ds → ∀ n ∈ d.weights P e, n ∈ DataW.weightsAll P e ds
  | [], _, h, _, _ => by cases h
  | d0 :: ds, d, h, n, hn => by
    simp only [DataW.weightsAll, List.mem_append]
    rcases List.mem_cons.1 h with rfl | h
    · exact .inl hn
    · exact .inr (weights_mem_all h n hn)
theorem small_elems {t e : TypeId} {elems sp : List (DataW H)} (ht : P.underlying t = some (.slice e)) (h : Small P t (.slice elems sp)) : (elems.length + sp.length) * P.bytesOf e ≤ reachBytes ∧ ∀ d ∈ elems, Small P e d := by
  refine ⟨h _ (by simp [DataW.weights, ht]), fun d hd n hn => h n ?_⟩
  simp only [DataW.weights, ht, List.mem_cons, List.mem_append]
  exact .inr (.inl (weights_mem_all hd n hn))
/-- A slice opened: its elements are one cell each. -/
theorem open_row {t e : TypeId} {v : Value} {d : DataW H} {ps : List MemPlace} (ht : P.underlying t = some (.slice e)) (hc : P.cellsOf e = 1) (h : DataW.Trod enc P w base spare held t v d ps) (hv1 : v.cells.toList = [v]) (hs : Small P t d) :
    ∃ (len n : Nat) (V : Nat → Value) (D : Nat → DataW H), Reads w v ((List.range len).map V) ∧ len * P.bytesOf e ≤ reachBytes ∧
      ∀ i, i < len → (∃ Pl, DataW.trod enc P w base spare held n e [V i] = some (D i, Pl)) ∧ Small P e (D i) := by
  obtain ⟨fuel, hf⟩ := h
  rw [hv1] at hf
  rcases open_slice1 ht hc hf with ⟨hcs, _⟩ | ⟨a, len, cap, m, n, V, D, Pl, hcs, _, hl, hm, hmm, hx, hcell⟩
  · obtain rfl : v = .slice none 0 0 := by simpa using hcs
    exact ⟨0, 0, fun _ => undef, fun _ => .nil, .inl ⟨rfl, none, 0, rfl, by unfold maxLen; omega, fun _ => rfl⟩, by simp, fun i hi => by omega⟩
  · obtain rfl : v = .slice (some a) len cap := by simpa using hcs
    obtain ⟨rfl, _⟩ := Prod.mk.inj hx
    have hse := small_elems ht hs
    have hlm : len ≤ m := by rw [hmm]; split <;> omega
    refine ⟨len, n, V, D, ?_, ?_, fun i hi => ⟨⟨_, (hcell i (by omega)).2⟩, hse.2 _ (List.mem_map.2 ⟨i, List.mem_range.2 hi, rfl⟩)⟩⟩
    · by_cases h0 : len = 0
      · subst h0; exact .inl ⟨rfl, _, _, rfl, hm, fun h => by cases h⟩
      · have hc0 := (hcell 0 (by omega)).1
        obtain ⟨b, o, spot⟩ := a
        have hspot : spot = none := by simpa [Addr.add] using World.cell?_spot hc0
        subst hspot
        refine .inr ⟨by simpa using h0, b, o, cap, by simp, by simpa using hl, hm, fun i u hu => ?_⟩
        have hi : i < len := by
          have := List.getElem?_eq_some_iff.1 hu
          simpa using this.1
        have hcx := (hcell i (by omega)).1
        rw [Addr.add_lit] at hcx
        have hu' : u = V i := by simpa [hi] using hu.symm
        rw [hu']; exact hcx
    · have := hse.1
      simp only [List.length_map, List.length_range] at this
      exact Nat.le_trans (Nat.mul_le_mul_right _ (by omega)) this
def boolOf : Value → Bool | .bool b => b | _ => false
theorem open_ints' {t e : TypeId} {v : Value} {d : DataW H} {ps : List MemPlace} (ht : P.underlying t = some (.slice e)) (he : P.underlying e = some (.int .i64)) (hc : P.cellsOf e = 1) (h : DataW.Trod enc P w base spare held t v d ps) (hv1 : v.cells.toList = [v]) (hs : Small P t d) :
    ∃ xs : List Int, Reads w v (xs.map (Value.int .i64)) ∧ xs.length * P.bytesOf e ≤ reachBytes ∧ ∀ x ∈ xs, (Lit.int .i64 x).wf = true := by
  obtain ⟨len, n, V, D, hr, hb, hx⟩ := open_row ht hc h hv1 hs
  have hV : ∀ i, i < len → V i = .int .i64 (intOf (V i)) ∧ (Lit.int .i64 (intOf (V i))).wf = true := fun i hi => by
    obtain ⟨⟨Pl, hp⟩, _⟩ := hx i hi
    obtain ⟨x, h1, _, h3⟩ := DataW.trod_int he hp
    obtain h1 : V i = .int .i64 x := by simpa using h1
    rw [h1]; exact ⟨rfl, h3⟩
  refine ⟨(List.range len).map fun i => intOf (V i), ?_, by simpa using hb, fun x hxm => ?_⟩
  · rw [List.map_map]
    have : (List.range len).map V = (List.range len).map (Value.int .i64 ∘ fun i => intOf (V i)) := List.map_congr_left fun i hi => (hV i (List.mem_range.1 hi)).1
    rw [← this]; exact hr
  · obtain ⟨i, hi, rfl⟩ := List.mem_map.1 hxm
    exact (hV i (List.mem_range.1 hi)).2
theorem open_bools' {t e : TypeId} {v : Value} {d : DataW H} {ps : List MemPlace} (ht : P.underlying t = some (.slice e)) (he : P.underlying e = some .bool) (hc : P.cellsOf e = 1) (h : DataW.Trod enc P w base spare held t v d ps) (hv1 : v.cells.toList = [v]) (hs : Small P t d) :
    ∃ xs : List Bool, Reads w v (bools xs) ∧ xs.length * P.bytesOf e ≤ reachBytes := by
  obtain ⟨len, n, V, D, hr, hb, hx⟩ := open_row ht hc h hv1 hs
  have hV : ∀ i, i < len → V i = .bool (boolOf (V i)) := fun i hi => by
    obtain ⟨⟨Pl, hp⟩, _⟩ := hx i hi
    obtain ⟨x, h1, _⟩ := DataW.trod_bool he hp
    obtain h1 : V i = .bool x := by simpa using h1
    rw [h1]; rfl
  refine ⟨(List.range len).map fun i => boolOf (V i), ?_, by simpa using hb⟩
  unfold bools
  rw [List.map_map]
  have : (List.range len).map V = (List.range len).map (Value.bool ∘ fun i => boolOf (V i)) := List.map_congr_left fun i hi => hV i (List.mem_range.1 hi)
  rw [← this]; exact hr
/-- A slice of slices of bools. -/
def Grid (w : World) (v : Value) (ls : List (List Bool)) : Prop :=
  ∃ V : Nat → Value, Reads w v ((List.range ls.length).map V) ∧ ∀ i, i < ls.length → Reads w (V i) (bools (ls.getD i []))
theorem open_grid {t e b : TypeId} {v : Value} {d : DataW H} {ps : List MemPlace} (ht : P.underlying t = some (.slice e)) (he : P.underlying e = some (.slice b)) (hbb : P.underlying b = some .bool) (hc : P.cellsOf e = 1) (hcb : P.cellsOf b = 1) (h1b : P.bytesOf b = 1) (h : DataW.Trod enc P w base spare held t v d ps) (hv1 : v.cells.toList = [v]) (hs : Small P t d) :
    ∃ ls : List (List Bool), Grid w v ls ∧ ls.length * P.bytesOf e ≤ reachBytes ∧ ∀ l ∈ ls, l.length ≤ reachBytes := by
  obtain ⟨len, n, V, D, hr, hb, hx⟩ := open_row ht hc h hv1 hs
  have hV : ∀ i, i < len → ∃ l : List Bool, Reads w (V i) (bools l) ∧ l.length ≤ reachBytes := fun i hi => by
    obtain ⟨⟨Pl, hp⟩, hsm⟩ := hx i hi
    have hone : (V i).cells.toList = [V i] := by
      rcases DataW.trod_slice he hp with ⟨hcs, _⟩ | ⟨a, l, c, _, _, _, _, hcs, _⟩
      · obtain h1 : V i = _ := by simpa using hcs
        rw [h1]; rfl
      · obtain h1 : V i = _ := by simpa using hcs
        rw [h1]; rfl
    obtain ⟨xs, h1, h2⟩ := open_bools' he hbb hcb ⟨n, by rw [hone]; exact hp⟩ hone hsm
    exact ⟨xs, h1, by rw [h1b] at h2; simpa using h2⟩
  have hex : ∀ i, ∃ l : List Bool, i < len → Reads w (V i) (bools l) ∧ l.length ≤ reachBytes := fun i => by
    by_cases hi : i < len
    · obtain ⟨l, hl⟩ := hV i hi; exact ⟨l, fun _ => hl⟩
    · exact ⟨[], fun h => absurd h hi⟩
  obtain ⟨L, hL⟩ := Classical.axiomOfChoice hex
  refine ⟨(List.range len).map L, ⟨V, by simpa using hr, fun i hi => ?_⟩, by simpa using hb, fun l hl => ?_⟩
  · have hi' : i < len := by simpa using hi
    have := (hL i hi').1
    simpa [hi'] using this
  · obtain ⟨i, hi, rfl⟩ := List.mem_map.1 hl
    exact (hL i (List.mem_range.1 hi)).2
end Go.Proofs.Ytmpgjnindbklaaa.BA
