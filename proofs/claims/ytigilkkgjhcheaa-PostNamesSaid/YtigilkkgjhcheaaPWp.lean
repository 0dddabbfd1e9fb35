import Derived.WalkKit
import Derived.Defers
import Derived.Conc.LoneSelect
/-! A walk in a frame that is no initialiser's: 'Code.wp' but for the frames in which a communication isn't let in. So a region that opens with a communication can be stepped over by a law of the machine. -/
namespace Go.NWalk
open Go Go.Conc

/-- The code, begun in a frame that is no initialiser's, comes to an exit of which 'Q' holds. -/
def Runs (P : Program) (c : Code) (Q : Exit → Act → World → Prop) (a : Act) (w : World) : Prop :=
  ∀ (b : Frame) (k : List Item) (cs : List Frame), b.kind ≠ .early →
    ∃ e a' w', Q e a' w' ∧ Arrives P (lone (b.at a (.code c :: k)) cs w) b k cs e a' w'

section
variable {P : Program} {Q : Exit → Act → World → Prop} {a : Act} {w : World}

theorem Runs.of_wp {c : Code} (h : c.wp P Q a w) : Runs P c Q a w := fun b k cs _ => h b k cs

theorem Runs.seq_k {x y : Code} (h : ∀ K : Act → World → Prop, (∀ a w, Runs P y Q a w → K a w) → Runs P x (Exit.then K Q) a w) : Runs P (Code.seq x y) Q a w := by
  intro b k cs hb
  obtain ⟨e, a₁, w₁, hq, harr⟩ := h (Runs P y Q) (fun _ _ h => h) b (.code y :: k) cs hb
  have skip : ∀ e, e ≠ .normal → Exit.then (Runs P y Q) Q e a₁ w₁ → Arrives P (lone (b.at a (.code x :: .code y :: k)) cs w) b (.code y :: k) cs e a₁ w₁ →
      ∃ e a' w', Q e a' w' ∧ Arrives P (lone (b.at a (.code (.seq x y) :: k)) cs w) b k cs e a' w' := by
    intro e he hq harr
    refine ⟨e, a₁, w₁, ?_, .of_steps (.one step_seq) (.pass (x := .code y) rfl (fun _ _ => .inl he) harr)⟩
    cases e <;> first | exact absurd rfl he | exact hq
  by_cases he : e = .normal
  · subst he
    obtain ⟨e₂, a₂, w₂, hq₂, harr₂⟩ := (show Runs P y Q a₁ w₁ from hq) b k cs hb
    exact ⟨e₂, a₂, w₂, hq₂, .of_steps (.head step_seq harr) harr₂⟩
  · exact skip e he hq harr

theorem Runs.cond {c : Operand} {x y : Code} {t : Bool} (hc : a.eval c = .bool t) (h : Runs P (if t then x else y) Q a w) : Runs P (Code.cond c x y) Q a w :=
  fun b k cs hb => let ⟨e, a', w', q, r⟩ := h b k cs hb; ⟨e, a', w', q, .of_steps (.one (step_cond hc)) r⟩

/-- A region whose first operation is stepped over by a law of the machine of one. -/
theorem Runs.region_first {id : Nat} {o : Oper} {rest : List Oper} {v : Value} {w' : World}
    (hs : ∀ (b : Frame) (k : List Item) (cs : List Frame), b.kind ≠ .early →
      step P (lone (b.at a (.inRegion (o :: rest).toArray (0 :: List.range' 1 rest.length) :: k)) cs w) = .next (lone ((b.at a (.inRegion (o :: rest).toArray (0 :: List.range' 1 rest.length) :: k)).finish v) cs w'))
    (h : wpList P (o :: rest).toArray Q rest (a.put o.dst v) w') : Runs P (Code.region id (o :: rest).toArray false) Q a w := by
  intro b k cs hb
  have h' : wpOps P (o :: rest).toArray Q (List.range' 1 rest.length) (a.put o.dst v) w' := by
    rw [wpOps_eq_wpList rest 1 (by intro j; simp [Nat.add_comm 1 j])]
    exact h
  obtain ⟨e, a', w'', q, r⟩ := wp_ops _ _ _ h' b k cs
  refine ⟨e, a', w'', q, .of_steps (.head ?_ (.one (hs b k cs hb))) ?_⟩
  · have := step_region (P := P) (b := b) (a := a) (k := k) (cs := cs) (w := w) (ops := (o :: rest).toArray) (id := id)
    rw [List.range_eq_range'] at this
    simpa [List.range'_succ] using this
  · rw [Frame.finish_at]
    simpa using r

theorem calls_of_runs_defers {f : FuncId} {fn : Func} {c : Code} {args : Array Value} {R : Ending → World → Prop}
    (hf : P.funcs[f]? = some fn) (hb : fn.body = some c)
    (h : Runs P c (bodyPostD P fn R) { tmps := args ++ Array.replicate (fn.ntmps - args.size) undef, defers := [] } w) : Calls P f args w R := by
  intro cs
  let b : Frame := { (default : Frame) with fn := f, kind := .normal }
  have henter : Frame.enter P f args .normal = b.at { tmps := args ++ Array.replicate (fn.ntmps - args.size) undef, defers := [] } [.code c] := by
    simp [Frame.enter, Frame.at, hf, hb, b]
  obtain ⟨e, a', w', hq, harr⟩ := h b [] cs (by simp [b])
  rw [← henter] at harr
  cases e with
  | normal =>
    obtain ⟨e', w'', fr', hR, hs, hfn, hl⟩ := leaves_steps a'.defers .returning w' { b.at a' [] with mode := .returning } cs rfl rfl rfl hf rfl hq
    exact ⟨e', w'', fr', hR, Comes.of_steps (Steps.trans harr (.one step_end)) hs, hfn, hl⟩
  | ret =>
    obtain ⟨todo, hs₀⟩ := harr
    obtain ⟨e', w'', fr', hR, hs, hfn, hl⟩ := leaves_steps a'.defers .returning w' { b.at a' todo with mode := .returning } cs rfl rfl rfl hf rfl hq
    exact ⟨e', w'', fr', hR, Comes.of_steps hs₀ hs, hfn, hl⟩
  | panic chain =>
    obtain ⟨todo, hs₀⟩ := harr
    obtain ⟨e', w'', fr', hR, hs, hfn, hl⟩ := leaves_steps a'.defers (.panicking chain) w' { b.at a' todo with mode := .panicking chain } cs rfl rfl rfl hf rfl hq
    exact ⟨e', w'', fr', hR, Comes.of_steps hs₀ hs, hfn, hl⟩
  | exit id => exact hq.elim
  | goto l => exact hq.elim
  | outgrown => exact ⟨.outgrown, w', b, hq, harr.resolve_left (by simp [b]), rfl, trivial⟩
end

section
variable {P : Program} {Q : Exit → Act → World → Prop} {a : Act} {w : World} {c cap s r : Nat} {buf : Array Value} {z v : Value} {closed tm : Bool} {id : Nat} {o : Oper} {rest : List Oper}

/-- A select of one receive case with a default, the buffer not empty. -/
theorem Runs.select_recv (hw : Region.wanted o (yielded (o :: rest).toArray a.tmps) = true) (hr : (execOp a.eval o).run P w = .ok (.comm #[rcase c z] false .select) w)
    (hc : w.heap[c]? = some (.chan cap buf closed s r tm)) (hsome : 0 < buf.size)
    (h : wpList P (o :: rest).toArray Q rest (a.put o.dst (.tuple #[goInt 0, .bool true, buf.getD 0 undef])) (w.setChan c cap (buf.extract 1 buf.size) closed s (r + 1) tm)) :
    Runs P (Code.region id (o :: rest).toArray false) Q a w :=
  Runs.region_first (fun _ _ _ hb => step_lone_select_recv_buf (stepG_comm (by simp) hw hb hr) hc hsome) h

/-- .. the buffer empty, the channel open. -/
theorem Runs.select_none (hw : Region.wanted o (yielded (o :: rest).toArray a.tmps) = true) (hr : (execOp a.eval o).run P w = .ok (.comm #[rcase c z] false .select) w)
    (hc : w.heap[c]? = some (.chan cap #[] false s r tm))
    (h : wpList P (o :: rest).toArray Q rest (a.put o.dst (.tuple #[goInt (-1), .bool false, z])) w) :
    Runs P (Code.region id (o :: rest).toArray false) Q a w :=
  Runs.region_first (fun _ _ _ hb => step_lone_select_default (stepG_comm (by simp) hw hb hr) hc) h

/-- A select of one send case with a default, the buffer not full. -/
theorem Runs.select_send (hw : Region.wanted o (yielded (o :: rest).toArray a.tmps) = true) (hr : (execOp a.eval o).run P w = .ok (.comm #[scase c v z] false .select) w)
    (hc : w.heap[c]? = some (.chan cap buf false s r tm)) (hroom : buf.size < cap)
    (h : wpList P (o :: rest).toArray Q rest (a.put o.dst (.tuple #[goInt 0, .bool false])) (w.setChan c cap (buf.push v) false (s + 1) r tm)) :
    Runs P (Code.region id (o :: rest).toArray false) Q a w :=
  Runs.region_first (fun _ _ _ hb => step_lone_select_send_room (stepG_comm (by simp) hw hb hr) hc hroom) h
end
end Go.NWalk
