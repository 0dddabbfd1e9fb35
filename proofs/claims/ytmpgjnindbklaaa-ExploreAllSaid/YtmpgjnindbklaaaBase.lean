/-
  Small laws over any program: a row that a slice owns, of whatever block's type; an append to it; a slice of integers or bools as it reads. No program in sight.
-/
/-
  An append of whatever reads as a row, as one step of a region that draws its order. No program in sight.
-/
import Derived.WalkKit
import Derived.WalkSpells
import Derived.WalkLawsBesides
import Derived.Lib.Hide
import Derived.Deep.RegionLaw
namespace Go.Proofs.Ytmpgjnindbklaaa.BA
open Go.RowKit

/-- A slice owns a row, whatever the type that its block bears (an array's block bears the array's). -/
def OwnS (w : World) (base size : Nat) (v : Value) (n : Nat) (xs : List Value) : Prop := ∃ te, w.ownsRow base te size v n xs

theorem OwnS.kept {w w' : World} {base size : Nat} {v : Value} {n : Nat} {xs : List Value} {row : Option Nat} (h : OwnS w base size v n xs) (hg : w.grownBy w' row) (hne : v.ownBlock = none ∨ v.ownBlock ≠ row) : OwnS w' base size v n xs :=
  let ⟨te, h⟩ := h; ⟨te, h.kept hg hne⟩
theorem OwnS.alloc {w : World} {base size : Nat} {v : Value} {n : Nat} {xs : List Value} (h : OwnS w base size v n xs) (o : Obj) : OwnS (w.alloc o) base size v n xs :=
  let ⟨te, h⟩ := h; ⟨te, h.alloc o⟩
theorem OwnS.len {w : World} {base size : Nat} {v : Value} {n : Nat} {xs : List Value} (h : OwnS w base size v n xs) : xs.length = n * size := let ⟨_, h⟩ := h; h.1

section
variable {P : Program} (w : World)
theorem run_room_te (t ty e te : TypeId) (i : TypeInfo) (ht : P.underlying t = some (.slice e)) (hi : P.info? e = some i)
    (g sLen sCap : Nat) (cur : Array Value) (hg : w.heap[g]? = some (.cells cur te (0, 0)))
    (a : Addr) (m c : Nat) (news : List Value) (hl : news.length = m * i.size) (hnews : ∀ j u, news[j]? = some u → w.cell? (a.add j) = some u) (h1 : ∀ u ∈ news, u.oneCell' = true)
    (hroom : sLen + m ≤ sCap) (hfit : sLen * i.size + news.length ≤ cur.size) :
    (Builtin.append_ #[t, t] ty #[.slice (some ⟨g, 0, none⟩) sLen sCap, .slice (some a) m c]).run P w =
      .ok (.slice (some ⟨g, 0, none⟩) (sLen + m) sCap) (w.setRow g (cur.toList.take (sLen * i.size) ++ news ++ cur.toList.drop (sLen * i.size + news.length)).toArray) := by
  have hf := run_firstCells_some (P := P) w i.size m a m c news hl hnews
  have hst := run_storeCells_at P g (sLen * i.size) te news 0 cur w hg (by simpa using hfit) h1
  simp only [Nat.add_zero] at hst
  simp [Builtin.append_, run_underlying ht, sizeOf, typeInfo, hi, Builtin.lenOf, hroom, hf, Addr.add_lit, hst]

/-- An append of at least one element to a row of whatever block type. -/
theorem run_append_ownS (base : Nat) (t ty e : TypeId) (i : TypeInfo) (z : Value) (size bytes : Nat) (ht : P.underlying t = some (.slice e)) (hi : P.info? e = some i) (hz : i.zero = some z)
    (hsize : i.size = size) (hby : i.bytes = bytes) (hzs : z.cells.size = size) (hsz : 0 < size)
    (v : Value) (n : Nat) (xs : List Value) (hown : OwnS w base size v n xs)
    (a : Addr) (m c : Nat) (news : List Value) (hl : news.length = m * size) (hnews : ∀ j u, news[j]? = some u → w.cell? (a.add j) = some u) (h1 : ∀ u ∈ news, u.oneCell' = true)
    (h63 : n + m ≤ maxLen) (hbytes : (n + m) * bytes ≤ 140737488355328) (hbase : base ≤ w.heap.size) :
    ∃ v' w', (Builtin.append_ #[t, t] ty #[v, .slice (some a) m c]).run P w = .ok v' w' ∧ OwnS w' base size v' (n + m) (xs ++ news) ∧ w.grownBy w' v.ownBlock ∧
      (v'.ownBlock = v.ownBlock ∨ v'.ownBlock = none ∨ ∃ k, v'.ownBlock = some k ∧ w.heap.size ≤ k) := by
  obtain ⟨te, hown⟩ := hown
  rcases hown.2 with ⟨rfl, rfl⟩ | ⟨g, cap, cur, rfl, hbg, hg, hnc, hcm, hcs, htake⟩
  · have hx : xs = [] := List.eq_nil_of_length_eq_zero (by simpa using hown.1)
    subst hx
    obtain ⟨v', w', r1, r2, r3, r4⟩ := run_append_own (P := P) w w.heap.size t ty e i z size bytes ht hi hz hsize hby hzs hsz (.slice none 0 0) 0 [] (World.ownsRow_nil w _ e size) a m c news hl hnews h1 h63 hbytes (Nat.le_refl _)
    refine ⟨v', w', r1, ⟨e, r2.1, ?_⟩, r3, ?_⟩
    · rcases r2.2 with hh | ⟨g, cap, cur, q1, q2, q3⟩
      · exact .inl hh
      · exact .inr ⟨g, cap, cur, q1, Nat.le_trans hbase q2, q3⟩
    · rcases r2.2 with ⟨hh, _⟩ | ⟨g, cap, cur, q1, q2, q3⟩
      · exact .inr (.inl (by rw [hh]; rfl))
      · exact .inr (.inr ⟨g, by rw [q1]; rfl, q2⟩)
  · by_cases hroom : n + m ≤ cap
    · subst hsize
      have hfit : n * i.size + news.length ≤ cur.size := by rw [hl, hcs, ← Nat.add_mul]; exact Nat.mul_le_mul_right _ hroom
      have hlen : (xs ++ news).length = (n + m) * i.size := by rw [List.length_append, hown.1, hl, Nat.add_mul]
      have hr := run_room_te (P := P) w t ty e te i ht hi g n cap cur hg a m c news hl hnews h1 hroom hfit
      refine ⟨_, _, hr, ⟨te, hlen, .inr ⟨g, cap, _, rfl, hbg, setRow_heap w g cur _ te _ hg, hroom, hcm, ?_, ?_⟩⟩, ⟨rfl, rfl, rfl, by simp, fun k _ hk => setRow_other w g k _ (fun e => hk (by simp [Value.ownBlock, e]))⟩, .inl rfl⟩
      · simp only [List.size_toArray, List.length_append, List.length_take, List.length_drop, Array.length_toList]
        omega
      · rw [htake, ← hlen]
        exact List.take_left
    · have holds : ∀ j u, xs[j]? = some u → w.cell? ((⟨g, 0, none⟩ : Addr).add j) = some u := hown.cells (g := g) rfl
      obtain ⟨v', w', r1, r2, r3⟩ := run_append_arg_grows (P := P) w t ty e i z size bytes ht hi hz hsize hby hzs hsz ⟨g, 0, none⟩ n cap xs hown.1 holds a m c news hl hnews (by omega) h63 hbytes
      refine ⟨v', w', r1, ⟨e, r2.1, ?_⟩, ⟨r3.os, r3.tape, r3.output, r3.size, fun k hk _ => r3.block k hk (by simp)⟩, ?_⟩
      · rcases r2.2 with hh | ⟨g, cap, cur, q1, q2, q3⟩
        · exact .inl hh
        · exact .inr ⟨g, cap, cur, q1, Nat.le_trans hbase q2, q3⟩
      · rcases r2.2 with ⟨hh, _⟩ | ⟨g, cap, cur, q1, q2, q3⟩
        · exact .inr (.inl (by rw [hh]; rfl))
        · exact .inr (.inr ⟨g, by rw [q1]; rfl, q2⟩)
end

theorem wpList_append_ownS {P : Program} (w : World) {ops : Array Oper} {rest : List Oper} {o : Oper} {a : Act} {Q : Exit → Act → World → Prop} (hgd : o.guard = none) (s x : Operand) (t : TypeId)
    (ho : o.op = .call { callee := .builtin .append, args := #[s, x], argTypes := #[t, t] })
    (base : Nat) (e : TypeId) (i : TypeInfo) (z : Value) (size bytes : Nat) (ht : P.underlying t = some (.slice e)) (hi : P.info? e = some i) (hz : i.zero = some z)
    (hsize : i.size = size) (hby : i.bytes = bytes) (hzs : z.cells.size = size) (hsz : 0 < size)
    (v : Value) (n : Nat) (xs : List Value) (hs : a.eval s = v) (hown : OwnS w base size v n xs)
    (ad : Addr) (m c : Nat) (news : List Value) (hx : a.eval x = .slice (some ad) m c) (hl : news.length = m * size) (hnews : ∀ j u, news[j]? = some u → w.cell? (ad.add j) = some u) (h1 : ∀ u ∈ news, u.oneCell' = true)
    (h63 : n + m ≤ maxLen) (hbytes : (n + m) * bytes ≤ 140737488355328) (hbase : base ≤ w.heap.size)
    (h : ∀ v' w', OwnS w' base size v' (n + m) (xs ++ news) → w.grownBy w' v.ownBlock → (v'.ownBlock = v.ownBlock ∨ v'.ownBlock = none ∨ ∃ k, v'.ownBlock = some k ∧ w.heap.size ≤ k) → wpList P ops Q rest (a.put o.dst v') w') : wpList P ops Q (o :: rest) a w := by
  refine wpList_plain hgd fun K hK => ?_
  obtain ⟨v', w', hr, h2, h3, h4⟩ := run_append_ownS (P := P) w base t o.type e i z size bytes ht hi hz hsize hby hzs hsz v n xs hown ad m c news hl hnews h1 h63 hbytes hbase
  unfold Oper.wp execOp
  simp only [ho, resolve, invoke, builtin, Sem.run_bind, Sem.run_pure, Result.andThen_ok, List.map_toArray, List.map_cons, List.map_nil, hs, hx, hr]
  exact hK _ _ (h v' w' h2 h3 h4)

def bools (l : List Bool) : List Value := l.map Value.bool
/-- A slice as it reads: its elements, one cell each, given as values. Of an empty one nothing is known but its shape. -/
def Reads (w : World) (v : Value) (xs : List Value) : Prop :=
  (xs = [] ∧ ∃ ao c, v = .slice ao 0 c ∧ c ≤ maxLen ∧ (ao = none → c = 0)) ∨
  (xs ≠ [] ∧ ∃ b o c, v = .slice (some ⟨b, o, none⟩) xs.length c ∧ xs.length ≤ c ∧ c ≤ maxLen ∧ ∀ i u, xs[i]? = some u → w.cell? ⟨b, o + i, none⟩ = some u)

theorem Reads.shape {w : World} {v : Value} {xs : List Value} (h : Reads w v xs) : ∃ ao c, v = .slice ao xs.length c := by
  rcases h with ⟨rfl, ao, c, hv, _⟩ | ⟨_, b, o, c, hv, _⟩
  · exact ⟨ao, c, hv⟩
  · exact ⟨some ⟨b, o, none⟩, c, hv⟩
theorem Reads.len {w : World} {v : Value} {xs : List Value} (h : Reads w v xs) : xs.length ≤ maxLen := by
  rcases h with ⟨rfl, _⟩ | ⟨_, b, o, c, _, h1, h2, _⟩
  · simp
  · omega
/-- What was there stays as it was, if its block does. -/
theorem Reads.same {w w' : World} {v : Value} {xs : List Value} (h : Reads w v xs) (hb : ∀ k, v.ownBlock = some k → k < w.heap.size → w'.heap[k]? = w.heap[k]?) : Reads w' v xs := by
  rcases h with h | ⟨hne, b, o, c, rfl, h1, h2, h3⟩
  · exact .inl h
  · refine .inr ⟨hne, b, o, c, rfl, h1, h2, fun i u hu => ?_⟩
    have hc := h3 i u hu
    exact (World.cell?_of_block (a := ⟨b, o + i, none⟩) (w := w) (hb b rfl (World.block_lt_of_cell? w _ hc))).trans hc
theorem OwnS.reads {w : World} {base : Nat} {v : Value} {n : Nat} {xs : List Value} (h : OwnS w base 1 v n xs) : Reads w v xs := by
  obtain ⟨te, h⟩ := h
  have hl := h.1
  rcases h.2 with ⟨rfl, rfl⟩ | ⟨g, cap, cur, rfl, _, hg, h1, h2, _, _⟩
  · exact .inl ⟨List.eq_nil_of_length_eq_zero (by omega), none, 0, rfl, by unfold maxLen; omega, fun _ => rfl⟩
  · by_cases hx : xs = []
    · subst hx
      obtain rfl : n = 0 := by simpa using hl.symm
      exact .inl ⟨rfl, _, _, rfl, h2, fun hh => by cases hh⟩
    · refine .inr ⟨hx, g, 0, cap, by rw [hl, Nat.mul_one], by omega, h2, fun i u hu => ?_⟩
      have := h.cells (g := g) rfl i u hu
      rw [Addr.add_lit] at this
      exact this
/-- An append of whatever reads as a row of one-cell elements (nil and empty ones too). -/
theorem run_append_reads {P : Program} (w : World) (base : Nat) (t ty e : TypeId) (i : TypeInfo) (z : Value) (bytes : Nat) (ht : P.underlying t = some (.slice e)) (hi : P.info? e = some i) (hz : i.zero = some z)
    (hsize : i.size = 1) (hby : i.bytes = bytes) (hzs : z.cells.size = 1)
    (v : Value) (n : Nat) (xs : List Value) (hown : OwnS w base 1 v n xs) (sv : Value) (ys : List Value) (hr : Reads w sv ys) (h1 : ∀ u ∈ ys, u.oneCell' = true)
    (h63 : n + ys.length ≤ maxLen) (hbytes : (n + ys.length) * bytes ≤ 140737488355328) (hbase : base ≤ w.heap.size) :
    ∃ v' w', (Builtin.append_ #[t, t] ty #[v, sv]).run P w = .ok v' w' ∧ OwnS w' base 1 v' (n + ys.length) (xs ++ ys) ∧ w.grownBy w' v.ownBlock ∧
      (v'.ownBlock = v.ownBlock ∨ v'.ownBlock = none ∨ ∃ k, v'.ownBlock = some k ∧ w.heap.size ≤ k) := by
  rcases hr with ⟨rfl, ao, c, rfl, _, hc⟩ | ⟨_, b, o, c, rfl, _, _, h3⟩
  · cases ao with
    | none =>
      obtain rfl := hc rfl
      have hown' := hown
      obtain ⟨te, hown⟩ := hown
      have hrun : (Builtin.append_ #[t, t] ty #[v, .slice none 0 0]).run P w = .ok v w := by
        rcases hown.2 with ⟨rfl, rfl⟩ | ⟨g, cap, cur, rfl, _, _, hnc, _⟩
        · simp [Builtin.append_, run_underlying ht, sizeOf, typeInfo, hi, Builtin.lenOf, Builtin.firstCells]
        · simp [Builtin.append_, run_underlying ht, sizeOf, typeInfo, hi, Builtin.lenOf, Builtin.firstCells, hnc, storeCells]
      exact ⟨v, w, hrun, by simpa using hown', World.grownBy.refl _ _, .inl rfl⟩
    | some a =>
      obtain ⟨v', w', r1, r2, r3, r4⟩ := run_append_ownS (P := P) w base t ty e i z 1 bytes ht hi hz hsize hby hzs (by decide) v n xs hown a 0 c [] rfl (fun j u hu => by simp at hu) (fun u hu => by simp at hu) (by simpa using h63) (by simpa using hbytes) hbase
      exact ⟨v', w', r1, r2, r3, r4⟩
  · obtain ⟨v', w', r1, r2, r3, r4⟩ := run_append_ownS (P := P) w base t ty e i z 1 bytes ht hi hz hsize hby hzs (by decide) v n xs hown ⟨b, o, none⟩ ys.length c ys (by simp) (fun j u hu => by rw [Addr.add_lit]; exact h3 j u hu) h1 h63 hbytes hbase
    exact ⟨v', w', r1, r2, r3, r4⟩
theorem wpList_append_reads {P : Program} (w : World) {ops : Array Oper} {rest : List Oper} {o : Oper} {a : Act} {Q : Exit → Act → World → Prop} (hgd : o.guard = none) (s x : Operand) (t : TypeId)
    (ho : o.op = .call { callee := .builtin .append, args := #[s, x], argTypes := #[t, t] })
    (base : Nat) (e : TypeId) (i : TypeInfo) (z : Value) (bytes : Nat) (ht : P.underlying t = some (.slice e)) (hi : P.info? e = some i) (hz : i.zero = some z)
    (hsize : i.size = 1) (hby : i.bytes = bytes) (hzs : z.cells.size = 1)
    (v : Value) (n : Nat) (xs : List Value) (hs : a.eval s = v) (hown : OwnS w base 1 v n xs) (sv : Value) (ys : List Value) (hx : a.eval x = sv) (hr : Reads w sv ys) (h1 : ∀ u ∈ ys, u.oneCell' = true)
    (h63 : n + ys.length ≤ maxLen) (hbytes : (n + ys.length) * bytes ≤ 140737488355328) (hbase : base ≤ w.heap.size)
    (h : ∀ v' w', OwnS w' base 1 v' (n + ys.length) (xs ++ ys) → w.grownBy w' v.ownBlock → (v'.ownBlock = v.ownBlock ∨ v'.ownBlock = none ∨ ∃ k, v'.ownBlock = some k ∧ w.heap.size ≤ k) → wpList P ops Q rest (a.put o.dst v') w') : wpList P ops Q (o :: rest) a w := by
  refine wpList_plain hgd fun K hK => ?_
  obtain ⟨v', w', hr, h2, h3, h4⟩ := run_append_reads (P := P) w base t o.type e i z bytes ht hi hz hsize hby hzs v n xs hown sv ys hr h1 h63 hbytes hbase
  unfold Oper.wp execOp
  simp only [ho, resolve, invoke, builtin, Sem.run_bind, Sem.run_pure, Result.andThen_ok, List.map_toArray, List.map_cons, List.map_nil, hs, hx, hr]
  exact hK _ _ (h v' w' h2 h3 h4)
theorem OwnS.nil (w : World) (base size : Nat) : OwnS w base size (.slice none 0 0) 0 [] := ⟨0, World.ownsRow_nil _ _ _ _⟩
theorem OwnS.blk {w : World} {base size : Nat} {v : Value} {n : Nat} {xs : List Value} (h : OwnS w base size v n xs) : ∀ k, v.ownBlock = some k → base ≤ k ∧ k < w.heap.size := let ⟨_, h⟩ := h; h.lt
theorem cells_set {w : World} {b o : Nat} {cs : Array Value} {t : TypeId} {z : Nat × Nat} {u : Value} (h : w.heap[b]? = some (.cells cs t z)) : (w.setCell ⟨b, o, none⟩ u).heap[b]? = some (.cells (cs.setIfInBounds o u) t z) := by
  have hlt := lt_of_block h
  have h' : w.heap[b] = .cells cs t z := by simpa [Array.getElem?_eq_getElem hlt] using h
  show (w.heap.modify b _)[b]? = _
  rw [Array.getElem?_eq_getElem (by simpa using hlt), Array.getElem_modify_self, h']
  rfl
theorem two_set0 {w : World} {b : Nat} {x y u : Value} {t : TypeId} (h : w.heap[b]? = some (.cells #[x, y] t (0, 0))) : (w.setCell ⟨b, 0, none⟩ u).heap[b]? = some (.cells #[u, y] t (0, 0)) := cells_set h
theorem two_set1 {w : World} {b : Nat} {x y u : Value} {t : TypeId} (h : w.heap[b]? = some (.cells #[x, y] t (0, 0))) : (w.setCell ⟨b, 1, none⟩ u).heap[b]? = some (.cells #[x, u] t (0, 0)) := cells_set h
theorem grown_of_below {w wr w' : World} {ob : Nat} (h : Below w.heap.size w wr) (hg : wr.grownBy w' (some ob)) : w.grownBy w' (some ob) :=
  ⟨hg.os.trans h.os, hg.tape.trans h.tape, hg.output.trans h.output, Nat.le_trans h.size hg.size, fun k hk hne => (hg.block k (Nat.lt_of_lt_of_le hk h.size) hne).trans (h.block k hk)⟩
theorem grown_drew {a b : World} {r : Option Nat} (h : a.grownBy b r) : a.grownBy b.drew r := ⟨h.os, h.tape, h.output, h.size, h.block⟩
theorem Reads.drew {w : World} {v : Value} {xs : List Value} (h : Reads w v xs) : Reads w.drew v xs := h.same fun _ _ _ => rfl
theorem grown_set (w : World) (ob o : Nat) (u : Value) : w.grownBy (w.setCell ⟨ob, o, none⟩ u) (some ob) :=
  ⟨rfl, rfl, rfl, by simp [World.setCell], fun k _ hne => Below.heap_setCell _ _ _ _ (fun e => hne (by rw [e]))⟩
theorem grown_trans {a b c : World} {r : Option Nat} (h : a.grownBy b r) (k : b.grownBy c r) : a.grownBy c r :=
  ⟨k.os.trans h.os, k.tape.trans h.tape, k.output.trans h.output, Nat.le_trans h.size k.size, fun i hi hne => (k.block i (Nat.lt_of_lt_of_le hi h.size) hne).trans (h.block i hi hne)⟩
end Go.Proofs.Ytmpgjnindbklaaa.BA
namespace Go.Proofs.Ytmpgjnindbklaaa.BA
open Go.RowKit
theorem step_append_reads {P : Program} {ops : Array Oper} {o : Oper} {a : Act} {w : World} {K : Act → World → Prop} {Q : Exit → Act → World → Prop} {E : Prop}
    (hgd : o.guard = none) (s x : Operand) (t : TypeId) (ho : o.op = .call { callee := .builtin .append, args := #[s, x], argTypes := #[t, t] })
    (base : Nat) (e : TypeId) (i : TypeInfo) (z : Value) (bytes : Nat) (ht : P.underlying t = some (.slice e)) (hi : P.info? e = some i) (hz : i.zero = some z)
    (hsize : i.size = 1) (hby : i.bytes = bytes) (hzs : z.cells.size = 1)
    (v : Value) (n : Nat) (xs : List Value) (hs : a.eval s = v) (hown : OwnS w base 1 v n xs) (sv : Value) (ys : List Value) (hx : a.eval x = sv) (hr : Reads w sv ys) (h1 : ∀ u ∈ ys, u.oneCell' = true)
    (h63 : n + ys.length ≤ maxLen) (hbytes : (n + ys.length) * bytes ≤ 140737488355328) (hbase : base ≤ w.heap.size)
    (h : ∀ v' w', OwnS w' base 1 v' (n + ys.length) (xs ++ ys) → w.grownBy w' v.ownBlock → (v'.ownBlock = v.ownBlock ∨ v'.ownBlock = none ∨ ∃ k, v'.ownBlock = some k ∧ w.heap.size ≤ k) → K (a.put o.dst v') w') :
    if Region.wanted o (yielded ops a.tmps) = true then Oper.wp P o a w K Q else E := by
  have hw : Region.wanted o (yielded ops a.tmps) = true := by simp [Region.wanted, hgd]
  rw [if_pos hw]
  obtain ⟨v', w', hrun, h2, h3, h4⟩ := run_append_reads (P := P) w base t o.type e i z bytes ht hi hz hsize hby hzs v n xs hown sv ys hr h1 h63 hbytes hbase
  unfold Oper.wp execOp
  simp only [ho, resolve, invoke, builtin, Sem.run_bind, Sem.run_pure, Result.andThen_ok, List.map_toArray, List.map_cons, List.map_nil, hs, hx, hrun]
  exact h v' w' h2 h3 h4
end Go.Proofs.Ytmpgjnindbklaaa.BA
