import Derived.Test.YtmpgjnindbklaaaESmall
import Derived.Test.YtmpgjnindbklaaaEFollow
import Derived.Test.YtmpgjnindbklaaaERFirst
/-! An append of lines (four cells each). -/
namespace Go.Proofs.Ytmpgjnindbklaaa
open Go.RowKit BA Ex

def flatLn (t : List Ln) : List Value := t.flatMap fun x => [.int .i64 x.op, .int .i64 x.a, .int .i64 x.b, .int .i64 x.c]
theorem flatLn_len (t : List Ln) : (flatLn t).length = t.length * 4 := by
  induction t with
  | nil => rfl
  | cons x t ih => simp only [flatLn, List.flatMap_cons, List.length_append, List.length_cons, List.length_nil] at *; omega
theorem flatLn_get (t : List Ln) (i : Nat) (hi : i < t.length) :
    (flatLn t)[i * 4]? = some (.int .i64 (t.getD i default).op) ∧ (flatLn t)[i * 4 + 1]? = some (.int .i64 (t.getD i default).a) ∧ (flatLn t)[i * 4 + 2]? = some (.int .i64 (t.getD i default).b) ∧ (flatLn t)[i * 4 + 3]? = some (.int .i64 (t.getD i default).c) := by
  induction t generalizing i with
  | nil => simp at hi
  | cons x t ih =>
    have e : flatLn (x :: t) = [.int .i64 x.op, .int .i64 x.a, .int .i64 x.b, .int .i64 x.c] ++ flatLn t := rfl
    cases i with
    | zero => rw [e]; exact ⟨rfl, rfl, rfl, rfl⟩
    | succ i =>
      have hh := ih i (by simpa using hi)
      rw [e]
      have hs : ∀ r, ([Value.int .i64 x.op, .int .i64 x.a, .int .i64 x.b, .int .i64 x.c] ++ flatLn t)[(i + 1) * 4 + r]? = (flatLn t)[i * 4 + r]? := by
        intro r
        rw [List.getElem?_append_right (by simp; omega)]
        congr 1
        simp; omega
      have hs0 := hs 0
      simp only [Nat.add_zero] at hs0
      rw [hs0, hs 1, hs 2, hs 3]
      simpa using hh
theorem flatLn_one (t : List Ln) : ∀ u ∈ flatLn t, u.oneCell' = true := by
  intro u hu
  simp only [flatLn, List.mem_flatMap, List.mem_cons, List.not_mem_nil, or_false] at hu
  obtain ⟨x, _, rfl | rfl | rfl | rfl⟩ := hu <;> rfl
/-- Lines as their cells read. -/
theorem Lines.cells {w : World} {v : Value} {t : List Ln} (h : Lines w v t) (h0 : t ≠ []) : ∃ b o c, v = .slice (some ⟨b, o, none⟩) t.length c ∧ ∀ j u, (flatLn t)[j]? = some u → w.cell? ((⟨b, o, none⟩ : Addr).add j) = some u := by
  rcases h with ⟨h1, _⟩ | ⟨_, b, o, c, hv, _, _, h3⟩
  · exact absurd h1 h0
  · refine ⟨b, o, c, hv, fun j u hj => ?_⟩
    have hlt : j < t.length * 4 := by rw [← flatLn_len]; exact (List.getElem?_eq_some_iff.1 hj).1
    obtain ⟨q0, q1, q2, q3⟩ := h3 (j / 4) (by omega)
    obtain ⟨f0, f1, f2, f3⟩ := flatLn_get t (j / 4) (by omega)
    rw [Addr.add_lit]
    have hr : j % 4 = 0 ∨ j % 4 = 1 ∨ j % 4 = 2 ∨ j % 4 = 3 := by omega
    rcases hr with hr | hr | hr | hr
    · rw [show j = j / 4 * 4 by omega, f0] at hj; cases hj
      rw [show o + j = o + j / 4 * 4 by omega]; exact q0
    · rw [show j = j / 4 * 4 + 1 by omega, f1] at hj; cases hj
      rw [show o + j = o + j / 4 * 4 + 1 by omega]; exact q1
    · rw [show j = j / 4 * 4 + 2 by omega, f2] at hj; cases hj
      rw [show o + j = o + j / 4 * 4 + 2 by omega]; exact q2
    · rw [show j = j / 4 * 4 + 3 by omega, f3] at hj; cases hj
      rw [show o + j = o + j / 4 * 4 + 3 by omega]; exact q3
theorem OwnS.lines {w : World} {base : Nat} {v : Value} {t : List Ln} (h : OwnS w base 4 v t.length (flatLn t)) : Lines w v t := by
  obtain ⟨te, h⟩ := h
  rcases h.2 with ⟨rfl, h0⟩ | ⟨g', cap, cur, rfl, _, hg, h1, h2, _, _⟩
  · exact .inl ⟨List.eq_nil_of_length_eq_zero h0, none, 0, rfl, by decide, fun _ => rfl⟩
  · by_cases ht : t = []
    · subst ht
      exact .inl ⟨rfl, _, _, rfl, h2, fun hh => by cases hh⟩
    · refine .inr ⟨ht, g', 0, cap, rfl, h1, h2, fun i hi => ?_⟩
      obtain ⟨f0, f1, f2, f3⟩ := flatLn_get t i hi
      have hc := h.cells (g := g') rfl
      have c0 := hc _ _ f0
      have c1 := hc _ _ f1
      have c2 := hc _ _ f2
      have c3 := hc _ _ f3
      rw [Addr.add_lit] at c0 c1 c2 c3
      exact ⟨c0, c1, c2, c3⟩

/-- append to nothing, of lines. -/
theorem run_append_lines (w : World) (ty : TypeId) (sv : Value) (t : List Ln) (hl : Lines w sv t) (h400 : t.length ≤ 1000) :
    ∃ v' w', (Builtin.append_ #[46, 46] ty #[.slice none 0 0, sv]).run Try.prog w = .ok v' w' ∧ OwnS w' w.heap.size 4 v' t.length (flatLn t) ∧ Below w.heap.size w w' := by
  have hi : Try.prog.info? 55 = some Try.t55 := by kernel_rfl
  by_cases h0 : t = []
  · subst h0
    rcases hl with ⟨_, ao, c, rfl, _, hc⟩ | ⟨hne, _⟩
    · cases ao with
      | none =>
        obtain rfl := hc rfl
        refine ⟨.slice none 0 0, w, ?_, OwnS.nil _ _ _, Below.refl _ _⟩
        simp [Builtin.append_, run_underlying Try.underlying46, sizeOf, typeInfo, hi, Builtin.lenOf, Builtin.firstCells]
      | some a =>
        obtain ⟨v', w', r1, r2, r3, r4⟩ := run_append_ownS (P := Try.prog) w w.heap.size 46 ty 55 Try.t55 _ 4 32 Try.underlying46 hi rfl rfl rfl rfl (by decide) (.slice none 0 0) 0 [] (OwnS.nil _ _ _) a 0 c [] rfl (fun j u hu => by simp at hu) (fun u hu => by simp at hu) (by decide) (by decide) (Nat.le_refl _)
        exact ⟨v', w', r1, by simpa [flatLn] using r2, ⟨r3.os, r3.tape, r3.output, r3.size, fun k hk => r3.block k hk (by simp [Value.ownBlock])⟩⟩
    · exact absurd rfl hne
  · obtain ⟨b, o, c, rfl, hcells⟩ := hl.cells h0
    obtain ⟨v', w', r1, r2, r3, r4⟩ := run_append_ownS (P := Try.prog) w w.heap.size 46 ty 55 Try.t55 _ 4 32 Try.underlying46 hi rfl rfl rfl rfl (by decide) (.slice none 0 0) 0 [] (OwnS.nil _ _ _) ⟨b, o, none⟩ t.length c (flatLn t) (flatLn_len t) hcells (flatLn_one t) (by unfold maxLen; omega) (by omega) (Nat.le_refl _)
    exact ⟨v', w', r1, by simpa using r2, ⟨r3.os, r3.tape, r3.output, r3.size, fun k hk => r3.block k hk (by simp [Value.ownBlock])⟩⟩

theorem step_append_lines {ops : Array Oper} {o : Oper} {a : Act} {w : World} {K : Act → World → Prop} {Q : Exit → Act → World → Prop} {E : Prop} (hgd : o.guard = none) (s x : Operand)
    (ho : o.op = .call { callee := .builtin .append, args := #[s, x], argTypes := #[46, 46] }) (hs : a.eval s = .slice none 0 0) (sv : Value) (t : List Ln) (hx : a.eval x = sv) (hr : Lines w sv t) (h400 : t.length ≤ 1000)
    (h : ∀ v' w', OwnS w' w.heap.size 4 v' t.length (flatLn t) → Below w.heap.size w w' → K (a.put o.dst v') w') :
    if Region.wanted o (yielded ops a.tmps) = true then Oper.wp Try.prog o a w K Q else E := by
  have hw : Region.wanted o (yielded ops a.tmps) = true := by simp [Region.wanted, hgd]
  rw [if_pos hw]
  obtain ⟨v', w', hrun, h2, h3⟩ := run_append_lines w o.type sv t hr h400
  unfold Oper.wp execOp
  simp only [ho, resolve, invoke, builtin, Sem.run_bind, Sem.run_pure, Result.andThen_ok, List.map_toArray, List.map_cons, List.map_nil, hs, hx, hrun]
  exact h v' w' h2 h3
end Go.Proofs.Ytmpgjnindbklaaa
namespace Go.Proofs.Ytmpgjnindbklaaa
open Go.RowKit BA Ex

/-- Copies of threads, made by the call. -/
structure Cops (w : World) (base : Nat) (qv : Value) (vs : List Value) (ts : List (List Ln)) : Prop where
  own : OwnS w base 1 qv ts.length vs
  rows : ∀ (k : Nat) (u : Value) (t : List Ln), vs[k]? = some u → ts[k]? = some t → OwnS w base 4 u t.length (flatLn t) ∧ (u.ownBlock = none ∨ u.ownBlock ≠ qv.ownBlock)

theorem Cops.kept {w w' : World} {base : Nat} {v : Value} {vs : List Value} {ts : List (List Ln)} {row : Option Nat} (h : Cops w base v vs ts) (hg : w.grownBy w' row) (hr : ∀ k, row = some k → w.heap.size ≤ k ∨ k < base) : Cops w' base v vs ts := by
  have key : ∀ (x : Value) size n xs, OwnS w base size x n xs → OwnS w' base size x n xs := fun x size n xs hx => hx.kept hg (by
    cases hb : x.ownBlock with
    | none => exact .inl rfl
    | some k =>
      refine .inr fun e => ?_
      have h1 := hx.blk k hb
      have h2 := hr k e.symm
      omega)
  exact ⟨key _ _ _ _ h.own, fun k u t hu ht => ⟨key _ _ _ _ (h.rows k u t hu ht).1, (h.rows k u t hu ht).2⟩⟩
theorem Cops.push {w w' : World} {base : Nat} {v v' u : Value} {vs : List Value} {ts : List (List Ln)} {t : List Ln} (h : Cops w base v vs ts) (hu : OwnS w base 4 u t.length (flatLn t)) (hne : u.ownBlock = none ∨ u.ownBlock ≠ v.ownBlock)
    (hv : OwnS w' base 1 v' (ts.length + 1) (vs ++ [u])) (hg : w.grownBy w' v.ownBlock) (hob : v'.ownBlock = v.ownBlock ∨ v'.ownBlock = none ∨ ∃ k, v'.ownBlock = some k ∧ w.heap.size ≤ k) : Cops w' base v' (vs ++ [u]) (ts ++ [t]) := by
  have hlen : vs.length = ts.length := by have := h.own.len; omega
  have key : ∀ x n xs, OwnS w base 4 x n xs → (x.ownBlock = none ∨ x.ownBlock ≠ v.ownBlock) → OwnS w' base 4 x n xs ∧ (x.ownBlock = none ∨ x.ownBlock ≠ v'.ownBlock) := by
    intro x n xs hx hxn
    refine ⟨hx.kept hg hxn, ?_⟩
    rcases hxn with hxn | hxn
    · exact .inl hxn
    · cases hxb : x.ownBlock with
      | none => exact .inl rfl
      | some k =>
        refine .inr fun e => ?_
        rcases hob with ho | ho | ⟨k', hk', hle⟩
        · exact hxn (by rw [hxb, e, ho])
        · rw [ho] at e; cases e
        · rw [hk'] at e
          cases e
          have := (hx.blk k hxb).2
          omega
  refine ⟨by rw [List.length_append]; exact hv, fun k x l' hx hl => ?_⟩
  by_cases hk : k < vs.length
  · rw [List.getElem?_append_left hk] at hx
    rw [List.getElem?_append_left (by omega)] at hl
    obtain ⟨r1, r2⟩ := h.rows k x l' hx hl
    exact key x _ _ r1 r2
  · rw [List.getElem?_append_right (by omega)] at hx hl
    rw [hlen] at hx
    cases hkk : k - ts.length with
    | zero =>
      rw [hkk] at hx hl
      simp only [List.getElem?_cons_zero, Option.some.injEq] at hx hl
      subst hx; subst hl
      exact key u _ _ hu hne
    | succ m => rw [hkk] at hx; simp at hx
theorem Cops.threads {w : World} {base : Nat} {v : Value} {vs : List Value} {ts : List (List Ln)} (h : Cops w base v vs ts) : Threads w v ts := by
  have hlen : vs.length = ts.length := by have := h.own.len; omega
  have e : vs = (List.range ts.length).map (fun k => vs.getD k undef) := by
    apply List.ext_getElem (by simp [hlen])
    intro i h1 h2
    simp [List.getD_eq_getElem?_getD, h1]
  refine ⟨fun k => vs.getD k undef, by rw [← e]; exact h.own.reads, fun k hk => ?_⟩
  have hkv : k < vs.length := by omega
  have := (h.rows k vs[k] ts[k] (List.getElem?_eq_getElem hkv) (List.getElem?_eq_getElem hk)).1
  have e1 : vs.getD k undef = vs[k] := by simp [List.getD_eq_getElem?_getD, hkv]
  have e2 : ts.getD k [] = ts[k] := by simp [List.getD_eq_getElem?_getD, hk]
  show Lines w (vs.getD k undef) (ts.getD k [])
  rw [e1, e2]
  exact OwnS.lines this
end Go.Proofs.Ytmpgjnindbklaaa
namespace Go.Proofs.Ytmpgjnindbklaaa
open Go.RowKit BA Ex

/-- What the rounds of 'copied' keep. -/
structure RCop (w wr : World) (N Q : Nat) (sw st wv qv : Value) (vs : List Value) (p : Lt) (k : Nat) : Prop where
  below : Below N w wr
  nw : w.heap.size = N
  box : wr.heap[N]? = some (.cells #[sw, st] 25 (0, 0))
  res : wr.heap[N + 1]? = some (.cells #[.slice none 0 0, .slice none 0 0] 25 (0, 0))
  q : wr.heap[Q]? = some (.cells #[wv, qv] 25 (0, 0))
  words : OwnS wr (N + 2) 1 wv p.words.length (ints p.words)
  cops : Cops wr (Q + 1) qv vs (p.threads.take k)
  lt : N + 1 < Q
  wq : ∀ j, wv.ownBlock = some j → j < Q

theorem RCop.grown {w wr w' : World} {N Q : Nat} {sw st wv qv : Value} {vs : List Value} {p : Lt} {k : Nat} {row : Option Nat} (h : RCop w wr N Q sw st wv qv vs p k) (hg : wr.grownBy w' row) (hr : ∀ j, row = some j → wr.heap.size ≤ j) : RCop w w' N Q sw st wv qv vs p k := by
  have hQ : Q < wr.heap.size := by have := h.q; rw [Array.getElem?_eq_some_iff] at this; exact this.1
  have hl := h.lt
  have keep : ∀ j, j < wr.heap.size → w'.heap[j]? = wr.heap[j]? := fun j hj => hg.block j hj (fun e => by have := hr j e.symm; omega)
  exact ⟨h.below.grown hg (by omega) (fun j hj => by have := hr j hj; omega), h.nw, (keep N (by omega)).trans h.box, (keep (N + 1) (by omega)).trans h.res, (keep Q hQ).trans h.q, h.words.kept hg (ownS_fresh h.words hr), h.cops.kept hg (fun j hj => .inl (hr j hj)), h.lt, h.wq⟩
theorem RCop.more {w wr w' : World} {N Q : Nat} {sw st wv qv : Value} {vs : List Value} {p : Lt} {k : Nat} (h : RCop w wr N Q sw st wv qv vs p k) (hb : Below wr.heap.size wr w') : RCop w w' N Q sw st wv qv vs p k := h.grown (grown_below hb) (fun j hj => by cases hj)
theorem RCop.c1 {w wr : World} {N Q : Nat} {sw st wv qv : Value} {vs : List Value} {p : Lt} {k : Nat} (h : RCop w wr N Q sw st wv qv vs p k) : wr.cell? ⟨N, 1, none⟩ = some st := by simp [World.cell?, h.box]
theorem RCop.q1 {w wr : World} {N Q : Nat} {sw st wv qv : Value} {vs : List Value} {p : Lt} {k : Nat} (h : RCop w wr N Q sw st wv qv vs p k) : wr.cell? ⟨Q, 1, none⟩ = some qv := by simp [World.cell?, h.q]
theorem RCop.qf {w wr : World} {N Q : Nat} {sw st wv qv : Value} {vs : List Value} {p : Lt} {k : Nat} (h : RCop w wr N Q sw st wv qv vs p k) : wr.frozen? ⟨Q, 1, none⟩ = false := by simp [World.frozen?, h.q]
/-- One copy more. -/
theorem RCop.step {w w8 w9 : World} {N Q : Nat} {sw st wv qv qv' u : Value} {vs : List Value} {p : Lt} {k : Nat} (h : RCop w w8 N Q sw st wv qv vs p k) (hk : k < p.threads.length)
    (hu : OwnS w8 (Q + 1) 4 u (p.threads.getD k []).length (flatLn (p.threads.getD k []))) (hne : u.ownBlock = none ∨ u.ownBlock ≠ qv.ownBlock)
    (hv : OwnS w9 (Q + 1) 1 qv' (k + 1) (vs ++ [u])) (hg : w8.grownBy w9 qv.ownBlock) (hob : qv'.ownBlock = qv.ownBlock ∨ qv'.ownBlock = none ∨ ∃ k, qv'.ownBlock = some k ∧ w8.heap.size ≤ k) :
    RCop w (w9.setCell ⟨Q, 1, none⟩ qv') N Q sw st wv qv' (vs ++ [u]) p (k + 1) := by
  have hQ : Q < w8.heap.size := by have := h.q; rw [Array.getElem?_eq_some_iff] at this; exact this.1
  have hl := h.lt
  have hqb : ∀ j, qv.ownBlock = some j → Q + 1 ≤ j := fun j hj => (h.cops.own.blk j hj).1
  have htl : (p.threads.take k).length = k := by rw [List.length_take]; omega
  have hc := h.cops.push hu hne (by rw [htl]; exact hv) hg hob
  have htk : p.threads.take (k + 1) = p.threads.take k ++ [p.threads.getD k []] := by
    rw [List.take_add_one, List.getElem?_eq_getElem hk]; simp [List.getD_eq_getElem?_getD, hk]
  have keep : ∀ j, j ≤ Q → w9.heap[j]? = w8.heap[j]? := fun j hj => hg.block j (by omega) (fun e => by have := hqb j e.symm; omega)
  have hb9 : Below N w w9 := h.below.grown hg (by omega) (fun j hj => by have := hqb j hj; omega)
  have hs := grown_set w9 Q 1 qv'
  have hw9 : OwnS w9 (N + 2) 1 wv p.words.length (ints p.words) := h.words.kept hg (by
    cases hb : wv.ownBlock with
    | none => exact .inl rfl
    | some j => exact .inr fun e => by have := h.wq j hb; have := hqb j e.symm; omega)
  have hq9 : w9.heap[Q]? = some (.cells #[wv, qv] 25 (0, 0)) := (keep Q (Nat.le_refl _)).trans h.q
  have hQ9 : Q < w9.heap.size := by rw [Array.getElem?_eq_some_iff] at hq9; exact hq9.1
  have hb' : Below N w (w9.setCell ⟨Q, 1, none⟩ qv') := hb9.grown hs (by omega) (fun j hj => by cases hj; omega)
  refine ⟨hb', h.nw, (hs.block N (by omega) (by intro e; cases e; omega)).trans ((keep N (by omega)).trans h.box), (hs.block (N + 1) (by omega) (by intro e; cases e; omega)).trans ((keep (N + 1) (by omega)).trans h.res), two_set1 hq9, hw9.kept hs ?_, by rw [htk]; exact hc.kept hs (fun j hj => by cases hj; omega), h.lt, h.wq⟩
  cases hb : wv.ownBlock with
  | none => exact .inl rfl
  | some j => exact .inr fun e => by have := h.wq j hb; cases e; omega
end Go.Proofs.Ytmpgjnindbklaaa
namespace Go.Proofs.Ytmpgjnindbklaaa
open Go.RowKit BA Ex

theorem made_shape {w : World} {base : Nat} {v : Value} {l : List Int} {m : Nat} (h : OwnS w base 1 v (0 + (ints l).length) ([] ++ ints l)) (hm : l.length = m) : ∃ ao c, v = .slice ao m c ∧ OwnS w base 1 v m (ints l) := by
  have h' : OwnS w base 1 v m (ints l) := by simpa [ints, hm] using h
  obtain ⟨ao, c, hv⟩ := ints_shape h'.reads
  exact ⟨ao, c, by rw [hv, hm], h'⟩
theorem made_lines {w : World} {base : Nat} {v : Value} {t : List Ln} {m : Nat} (h : OwnS w base 4 v t.length (flatLn t)) (hm : t.length = m) : ∃ ao c, v = .slice ao m c ∧ OwnS w base 4 v m (flatLn t) := by
  obtain ⟨ao, c, hv⟩ := (OwnS.lines h).shape
  exact ⟨ao, c, by rw [hv, hm], by rw [← hm]; exact h⟩
theorem made_one (ra : Option Addr) (m rc : Nat) : ∀ u ∈ [Value.slice ra m rc], u.oneCell' = true := by
  intro u hu
  simp only [List.mem_singleton] at hu
  subst hu; rfl

theorem any_shape {w : World} {base n : Nat} {v : Value} {xs : List Value} (h : OwnS w base 1 v n xs) : ∃ a m c, v = .slice a m c := let ⟨a, c, hv⟩ := h.reads.shape; ⟨a, _, c, hv⟩
theorem RCop.has {w wr : World} {N Q : Nat} {sw st wv qv : Value} {vs : List Value} {p : Lt} {k : Nat} (h : RCop w wr N Q sw st wv qv vs p k) (h0 : PHas w sw st p) : PHas wr sw st p := h0.below (by rw [h.nw]; exact h.below)
theorem RCop.own_at {w wr : World} {N Q : Nat} {sw st wv qv : Value} {vs : List Value} {p : Lt} {k : Nat} (h : RCop w wr N Q sw st wv qv vs p k) (hk : k < p.threads.length) (o : Obj) : OwnS (wr.alloc o) (Q + 1) 1 qv k vs := by
  have e : (p.threads.take k).length = k := by rw [List.length_take]; omega
  have := h.cops.own
  rw [e] at this
  exact OwnS.alloc this o
theorem reads_cell (w : World) (u : Value) (t : TypeId) : Reads (w.alloc (.cells #[u] t (0, 0))) (.slice (some ⟨w.heap.size, 0, none⟩) 1 1) [u] :=
  .inr ⟨by simp, w.heap.size, 0, 1, rfl, by simp, by decide, fun i x hx => by have := cell_new0 w u t i x hx; rw [Addr.add_lit] at this; exact this⟩
theorem RCop.after {w wr w' : World} {N Q : Nat} {sw st wv qv : Value} {vs : List Value} {p : Lt} {k : Nat} {o : Obj} (h : RCop w wr N Q sw st wv qv vs p k) (hg : (wr.alloc o).grownBy w' qv.ownBlock) : w'.cell? ⟨Q, 1, none⟩ = some qv ∧ w'.frozen? ⟨Q, 1, none⟩ = false := by
  have hQ : Q < wr.heap.size := by have := h.q; rw [Array.getElem?_eq_some_iff] at this; exact this.1
  have hb : w'.heap[Q]? = some (.cells #[wv, qv] 25 (0, 0)) := (hg.block Q (by simp; omega) (fun e => by have := (h.cops.own.blk Q e.symm).1; omega)).trans ((Below.heap_alloc _ _ _ hQ).trans h.q)
  exact ⟨by simp [World.cell?, hb], by simp [World.frozen?, hb]⟩

set_option maxRecDepth 100000 in
set_option maxHeartbeats 4000000 in
theorem copied_walk' (sw st : Value) (p : Lt) (w : World) (h : PHas w sw st p) (hs : smallB p = true) :
    Calls Try.prog 9 #[.agg #[sw, st]] w fun e w' => ∃ wv qv vs, e = .returned (.agg #[wv, qv]) ∧ OwnS w' w.heap.size 1 wv p.words.length (ints p.words) ∧ Cops w' w.heap.size qv vs p.threads ∧ Below w.heap.size w w' ∧ (∀ j, wv.ownBlock = some j → qv.ownBlock ≠ some j) := by
  have htot : tot p p.threads.length ≤ 400 := of_decide_eq_true hs
  have hn4 : p.words.length ≤ 400 := by unfold tot at htot; omega
  have hT4 : p.threads.length ≤ 400 := by unfold tot at htot; omega
  have ht4 : ∀ k, k < p.threads.length → (p.threads.getD k []).length ≤ 400 := fun k hk => by
    have h1 := tot_succ p hk
    have h2 := tot_le p (k := k + 1) (by omega)
    omega
  clear htot hs
  obtain ⟨aw, cw, rfl⟩ := h.words_shape
  obtain ⟨at0, ct, rfl⟩ := h.threads.shape
  have hR := RChk.begin h
  have H0 := Lib.hid h
  clear h
  have hi : Try.prog.info? 3 = some Try.t3 := by kernel_rfl
  have hj : Try.prog.info? 46 = some Try.t46 := by kernel_rfl
  have HI := Lib.hid hi
  have HJ := Lib.hid hj
  clear hi hj
  have HT4 := Lib.hid ht4
  clear ht4
  go_enter Try.func9, Try.ntmps9
  go_upto_region 1 with fail
  have hb2 : Below w.heap.size w ((w.alloc (.cells #[.slice aw p.words.length cw, .slice at0 p.threads.length ct] 25 (0, 0))).alloc (.cells #[.slice none 0 0, .slice none 0 0] 25 (0, 0))) := ((Below.refl _ _).alloc (Nat.le_refl _) _).alloc (by simp) _
  have hx0 : ((w.alloc (.cells #[.slice aw p.words.length cw, .slice at0 p.threads.length ct] 25 (0, 0))).alloc (.cells #[.slice none 0 0, .slice none 0 0] 25 (0, 0))).heap[w.heap.size]? = some (.cells #[.slice aw p.words.length cw, .slice at0 p.threads.length ct] 25 (0, 0)) := by
    rw [Below.heap_alloc _ _ _ (by simp), heap_alloc_new]
  have hx1 : ((w.alloc (.cells #[.slice aw p.words.length cw, .slice at0 p.threads.length ct] 25 (0, 0))).alloc (.cells #[.slice none 0 0, .slice none 0 0] 25 (0, 0))).heap[w.heap.size + 1]? = some (.cells #[.slice none 0 0, .slice none 0 0] 25 (0, 0)) := by
    simpa using heap_alloc_new (w.alloc (.cells #[.slice aw p.words.length cw, .slice at0 p.threads.length ct] 25 (0, 0))) (.cells #[.slice none 0 0, .slice none 0 0] 25 (0, 0))
  generalize (w.alloc (.cells #[.slice aw p.words.length cw, .slice at0 p.threads.length ct] 25 (0, 0))).alloc (.cells #[.slice none 0 0, .slice none 0 0] 25 (0, 0)) = w2 at hb2 hx0 hx1 ⊢
  clear hR
  have hwd : Reads w2 (.slice aw p.words.length cw) (ints p.words) := H0.out.words.same fun k _ hk => hb2.block k hk
  generalize hN : w.heap.size = N at hb2 hx0 hx1 ⊢
  have HN := Lib.hid hN
  clear hN
  have hsz2 : N + 2 ≤ w2.heap.size := by rw [Array.getElem?_eq_some_iff] at hx1; exact hx1.1
  have q0 : w2.cell? ⟨N, 0, none⟩ = some (.slice aw p.words.length cw) := by simp [World.cell?, hx0]
  have HWD := Lib.hid hwd
  have HB2 := Lib.hid hb2
  have HX0 := Lib.hid hx0
  have HX1 := Lib.hid hx1
  clear hwd hb2 hx0 hx1
  have n1 : 0 + (ints p.words).length ≤ maxLen := by simp only [ints, List.length_map]; unfold maxLen; omega
  have n2 : (0 + (ints p.words).length) * 8 ≤ 140737488355328 := by simp only [ints, List.length_map]; omega
  have N1 := Lib.hid n1
  have N2 := Lib.hid n2
  clear n1 n2
  go_wp2_with (at_builtin; refine wpList_append_reads _ rfl _ _ 22 rfl (N + 2) 3 Try.t3 (.int .i64 0) 8 Try.underlying22 HI.out rfl rfl rfl rfl (.slice none 0 0) 0 [] rfl (OwnS.nil _ _ _) (.slice aw p.words.length cw) (ints p.words) rfl HWD.out (ints_one _) N1.out N2.out hsz2 ?_; intro v3 w3 hv3 hg3 hob3; obtain ⟨ra, rc, hv3e, hv3o⟩ := made_shape hv3 rfl; subst hv3e; replace hg3 : w2.grownBy w3 none := hg3; have HV3 := Lib.hid hv3o; have HG3 := Lib.hid hg3; clear hv3 hg3 hob3 hv3o)
  have hR3 : RCop w (w3.alloc (.cells #[.slice ra p.words.length rc, .slice none 0 0] 25 (0, 0))) N w3.heap.size (.slice aw p.words.length cw) (.slice at0 p.threads.length ct) (.slice ra p.words.length rc) (.slice none 0 0) [] p 0 := by
    have hs3 := HG3.out.size
    have hb3 : Below N w w3 := HB2.out.grown HG3.out (by omega) (fun k hk => by cases hk)
    refine ⟨hb3.alloc (by omega) _, HN.out, ?_, ?_, heap_alloc_new _ _, OwnS.alloc HV3.out _, ⟨OwnS.nil _ _ _, fun k u t hu => by simp at hu⟩, by omega, fun j hj => (HV3.out.blk j hj).2⟩
    · rw [Below.heap_alloc _ _ _ (by omega)]; exact (HG3.out.block N (by omega) (by simp)).trans HX0.out
    · rw [Below.heap_alloc _ _ _ (by omega)]; exact (HG3.out.block (N + 1) (by omega) (by simp)).trans HX1.out
  generalize w3.alloc (.cells #[.slice ra p.words.length rc, .slice none 0 0] 25 (0, 0)) = w4 at hR3 ⊢
  generalize w3.heap.size = Q at hR3 ⊢
  clear HV3 HG3 HWD HX0 HX1 HB2 N1 N2 q0 hsz2
  go_loopw [4] (fun kv wr => ∃ (k : Nat) (qv : Value) (vs : List Value), k ≤ p.threads.length ∧ kv = .int .i64 k ∧ RCop w wr N Q (.slice aw p.words.length cw) (.slice at0 p.threads.length ct) (.slice ra p.words.length rc) qv vs p k) (fun kv _ => p.threads.length - (intOf kv).toNat)
  case atStart => exact ⟨0, _, [], by omega, rfl, hR3⟩
  case round =>
    clear hR3
    obtain ⟨k, qv, vs, hk, rfl, hR⟩ := hrel
    have q1 := hR.c1
    by_cases hlt : k < p.threads.length
    · obtain ⟨tb, t0, tc, tv, hv, hbl, hct, hL⟩ := (hR.has H0.out).threads.at' hlt
      cases hv
      obtain ⟨al, cl, rfl⟩ := hL.shape
      have hle := HT4.out k hlt
      generalize htt : p.threads.getD k [] = tt at hct hL hle
      have HTT := Lib.hid htt
      clear htt
      have hq := hR.q1
      have hqf := hR.qf
      have hQw : Q < wr.heap.size := World.block_lt_of_cell? wr _ hq
      have hNQ := hR.lt
      have hLd : Lines wr.drew (.slice al tt.length cl) tt := hL.same fun _ _ => rfl
      have hle' : tt.length ≤ 1000 := by omega
      have hkT : k ≤ 400 := by omega
      have HR := Lib.hid hR
      have HLD := Lib.hid hLd
      obtain ⟨m, hm⟩ : ∃ m, tt.length = m := ⟨_, rfl⟩
      have HM := Lib.hid hm
      clear hR hL hLd
      rw [hm] at hct
      clear hm hle
      have n1 : k + 1 ≤ maxLen := by unfold maxLen; omega
      have n2 : (k + 1) * 24 ≤ 140737488355328 := by omega
      go_wp2_with fail
      go_region_law (first
        | (refine step_append_lines rfl _ (.tmp 22) rfl rfl (.slice al m cl) tt rfl (by rw [← HM.out]; exact HLD.out) hle' ?_; intro u8 w8 hu8 hb8; obtain ⟨ua, uc, hue, huo⟩ := made_lines hu8 HM.out; subst hue; have hR8 := (HR.out.more (Below.refl _ _).drew).more hb8; have k1 := hR8.q1; have k2 := hR8.qf; have k3 := hR8.c1; have k4 : w8.cell? ⟨tb, t0 + k, none⟩ = some (.slice al m cl) := cell_below' hb8 hct; have k5 : Q < w8.heap.size := World.block_lt_of_cell? w8 _ k1; have HR8 := Lib.hid hR8; have HU8 := Lib.hid huo; have HB8 := Lib.hid hb8; have hown := RCop.own_at hR8 hlt (.cells #[.slice ua m uc] 46 (0, 0)); have hrd := reads_cell w8 (.slice ua m uc) 46; have n5 : Q + 1 ≤ (w8.alloc (.cells #[.slice ua m uc] 46 (0, 0))).heap.size := (by simp; omega); clear hu8 huo hb8 hR8)
        | (refine step_append_reads rfl (.tmp 17) (.tmp 24) 23 rfl (Q + 1) 46 Try.t46 (.slice none 0 0) 24 Try.underlying23 HJ.out rfl rfl rfl rfl qv k vs rfl hown (.slice (some ⟨w8.heap.size, 0, none⟩) 1 1) [.slice ua m uc] rfl hrd (made_one ua m uc) n1 n2 n5 ?_; intro v9 w9 hv9 hg9 hob9; obtain ⟨qa, qn, qc, hqe⟩ := any_shape hv9; subst hqe; have hR9 := RCop.after HR8.out hg9; have k6 := hR9.1; have k7 := hR9.2; have k8 : Q < w9.heap.size := World.block_lt_of_cell? w9 _ k6; clear hR9))
      all_goals (
        go_wp2
        go_roundw
        case rel =>
          have hal : Below w8.heap.size w8 (w8.alloc (.cells #[.slice ua m uc] 46 (0, 0))) := (Below.refl _ _).alloc (Nat.le_refl _) _
          have hqv : ∀ j, qv.ownBlock = some j → j < wr.heap.size := fun j hj => (HR.out.cops.own.blk j hj).2
          refine ⟨k + 1, _, vs ++ [.slice ua m uc], by omega, by go_num, (HR8.out.more hal).step hlt ?_ ?_ hv9 hg9 hob9⟩
          · rw [HTT.out, HM.out]
            exact OwnS.alloc (ownS_base HU8.out (by simp; omega)) _
          · cases hub : (Value.slice ua m uc).ownBlock with
            | none => exact .inl rfl
            | some j =>
              refine .inr fun e => ?_
              have h1 := (HU8.out.blk j hub).1
              have h2 := hqv j e.symm
              simp at h1
              omega
        case measure => simp [intOf]; omega)
    · obtain rfl : k = p.threads.length := by omega
      have hQ := hR.q
      have hres := hR.res
      have g0 : wr.cell? ⟨Q, 0, none⟩ = some (.slice ra p.words.length rc) := by simp [World.cell?, hQ]
      have g1 := hR.q1
      have hwv := OwnS.one hR.words
      have hqv := OwnS.one hR.cops.own
      have hone : (#[Value.slice ra p.words.length rc, qv] : Array Value).all (·.oneCell') = true := by
        rw [Array.all_eq_true_iff_forall_mem]
        intro x hx
        simp only [List.mem_toArray, List.mem_cons, List.not_mem_nil, or_false] at hx
        rcases hx with rfl | rfl
        · exact hwv
        · exact hqv
      have HR := Lib.hid hR
      clear hR
      go_wp2_with (first
        | refine wpList_load_row rfl 25 (.tmp 3) rfl Q rfl 25 #[.slice ra p.words.length rc, qv] (0, 0) _ hQ Try.underlying25 rfl (by kernel_rfl) ?_
        | refine wpList_store_row rfl 25 (.tmp 2) (.tmp 27) rfl (N + 1) #[.slice ra p.words.length rc, qv] rfl rfl 25 _ hres (by kernel_rfl) rfl hone ?_)
      refine bodyPost_ret (results_cell_row rfl _ _ (N + 1) 25 #[.slice ra p.words.length rc, qv] (0, 0) _ rfl (heap_setRow hres) Try.underlying25 rfl (by kernel_rfl)) rfl ?_
      have hg := grown_setRow wr (N + 1) #[.slice ra p.words.length rc, qv]
      have hl := HR.out.lt
      have hc := HR.out.cops
      rw [List.take_length] at hc
      have hc' := hc.kept hg (fun j hj => by cases hj; omega)
      refine ⟨_, _, vs, rfl, ?_, ⟨ownS_base hc'.own (by rw [HN.out]; omega), fun j u t hu ht => ⟨ownS_base (hc'.rows j u t hu ht).1 (by rw [HN.out]; omega), (hc'.rows j u t hu ht).2⟩⟩, by rw [HN.out]; exact below_setRow HR.out.below _ (by omega), fun j hj hq => by have h1 := HR.out.wq j hj; have h2 := (hc'.own.blk j hq).1; omega⟩
      refine ownS_base (HR.out.words.kept hg ?_) (by rw [HN.out]; omega)
      cases hb : (Value.slice ra p.words.length rc).ownBlock with
      | none => exact .inl rfl
      | some j => exact .inr fun e => by have := (HR.out.words.blk j hb).1; cases e; omega
theorem copied_walk (sw st : Value) (p : Lt) (w : World) (h : PHas w sw st p) (hs : smallB p = true) :
    Calls Try.prog 9 #[.agg #[sw, st]] w fun e w' => ∃ wv qv vs, e = .returned (.agg #[wv, qv]) ∧ OwnS w' w.heap.size 1 wv p.words.length (ints p.words) ∧ Cops w' w.heap.size qv vs p.threads ∧ Below w.heap.size w w' :=
  (copied_walk' sw st p w h hs).mono fun _ _ ⟨wv, qv, vs, h1, h2, h3, h4, _⟩ => ⟨wv, qv, vs, h1, h2, h3, h4⟩
end Go.Proofs.Ytmpgjnindbklaaa
