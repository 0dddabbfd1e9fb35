import Derived.Test.YtmpgjnindbklaaaEStep
import Derived.Test.YtmpgjnindbklaaaEWf
import Derived.Maps.OwnSet
import Derived.DeepKeys5
import Derived.Test.YtmpgjnindbklaaaEGrid
import Derived.Deep.MidRow
import Derived.Great.BuildSlice
/-! States as keys of a map. -/
namespace Go.Proofs.Ytmpgjnindbklaaa
open Go.RowKit BA Ex

theorem le_ble {a b : Nat} (h : Nat.ble a b = true) : a ≤ b := Nat.le_of_ble_eq_true h
theorem st_keyed : Maps.Keyed Try.prog 70 :=
  Maps.Keyed.of_law (deep_law_gate (by kernel_rfl) (le_ble (by kernel_rfl)) (le_ble (by kernel_rfl)) (by kernel_rfl) (by kernel_rfl))

/-- A number that a machine's word holds. -/
def inR (n : Int) : Prop := (Lit.int .i64 n).wf = true

theorem mapM_some {α β : Type} {f : α → Option β} : ∀ (l : List α), (∀ x ∈ l, ∃ y, f x = some y) → ∃ ys, l.mapM f = some ys
  | [], _ => ⟨[], rfl⟩
  | x :: l, h => by
    obtain ⟨y, hy⟩ := h x (by simp)
    obtain ⟨ys, hys⟩ := mapM_some l (fun z hz => h z (by simp [hz]))
    exact ⟨y :: ys, by simp [List.mapM_cons, hy, hys]⟩
theorem key_int (d : Nat) {n : Int} (h : inR n) : ∃ l, Try.prog.keyLits (d + 1) 3 [.int .i64 n] = some l := by
  unfold inR at h
  simp [Program.keyLits, Try.underlying3, h]
theorem key_bool (d : Nat) (b : Bool) : ∃ l, Try.prog.keyLits (d + 1) 4 [.bool b] = some l := by
  simp [Program.keyLits, Try.underlying4]
theorem key_arr (d : Nat) {t e m s : Nat} (ht : Try.prog.underlying t = some (.array m e)) (hs : Try.prog.cellsOf e = s) (hc : Try.prog.cellsOf t = m * s) {cs : List Value} (hl : cs.length = m * s) (h : ∀ i, i < m → ∃ l, Try.prog.keyLits d e ((cs.drop (i * s)).take s) = some l) : ∃ l, Try.prog.keyLits (d + 1) t cs = some l := by
  obtain ⟨ys, hys⟩ := mapM_some (f := fun i => Try.prog.keyLits d e ((cs.drop (i * s)).take s)) (List.range m) (fun i hi => h i (List.mem_range.1 hi))
  refine ⟨ys.flatten, ?_⟩
  simp only [Program.keyLits, ht, hs, hc, hl, if_true, hys, Option.map_some]
theorem ints_piece {l : List Int} {i : Nat} (hi : i < l.length) : ((ints l).drop i).take 1 = [.int .i64 (g l i)] := by
  have e : (ints l).drop i = .int .i64 (g l i) :: (ints l).drop (i + 1) := by
    rw [List.drop_eq_getElem_cons (by simpa [ints] using hi)]
    simp [ints, g, List.getD_eq_getElem?_getD, hi]
  rw [e]; rfl
theorem key_ints (d : Nat) {t m : Nat} (ht : Try.prog.underlying t = some (.array m 3)) (hc : Try.prog.cellsOf t = m * 1) {l : List Int} (hl : l.length = m) (h : ∀ i, i < m → inR (g l i)) : ∃ ls, Try.prog.keyLits (d + 1 + 1) t (ints l) = some ls := by
  refine key_arr (d + 1) (s := 1) ht (by kernel_rfl) hc (by simp [ints, hl]) (fun i hi => ?_)
  rw [Nat.mul_one, ints_piece (by omega)]
  exact key_int d (h i hi)
theorem ints_take (l : List Int) (n : Nat) : (ints l).take n = ints (l.take n) := by simp [ints, List.map_take]
theorem ints_drop (l : List Int) (n : Nat) : (ints l).drop n = ints (l.drop n) := by simp [ints, List.map_drop]
theorem gpiece {l : List Int} {o n i : Nat} (hi : i < n) : g ((l.drop o).take n) i = g l (o + i) := by
  simp [g, List.getD_eq_getElem?_getD, hi]

theorem st_lits (d : Nat) {c : List Int} {bad : Bool} (hc : c.length = 28) (h : ∀ i, i < 28 → inR (g c i)) : ∃ ls, Try.prog.keyLits (d + 1 + 1 + 1 + 1) 70 (stA c bad).toList = some ls := by
  have e : (stA c bad).toList = ints c ++ [.bool bad] := rfl
  have hl : (ints c).length = 28 := by simp [ints, hc]
  obtain ⟨l1, h1⟩ := key_ints (d + 1) (t := 65) (m := 8) Try.underlying65 (by kernel_rfl) (l := (c.drop 0).take 8) (by simp [hc]) (fun i hi => by rw [gpiece hi]; exact h _ (by omega))
  obtain ⟨l2, h2⟩ := key_ints (d + 1) (t := 66) (m := 4) Try.underlying66 (by kernel_rfl) (l := (c.drop 8).take 4) (by simp [hc]) (fun i hi => by rw [gpiece hi]; exact h _ (by omega))
  obtain ⟨l3, h3⟩ := key_arr (d + 1 + 1) (t := 68) (e := 67) (m := 4) (s := 4) Try.underlying68 (by kernel_rfl) (by kernel_rfl) (cs := ints ((c.drop 12).take 16)) (by simp [ints, hc]) (fun i hi => by
    rw [ints_drop, ints_take]
    refine key_ints d (t := 67) (m := 4) Try.underlying67 (by kernel_rfl) (by simp [hc]; omega) (fun j hj => ?_)
    rw [gpiece hj, gpiece (by omega)]
    exact h _ (by omega))
  obtain ⟨l4, h4⟩ := key_bool (d + 1 + 1) bad
  rw [e]
  have p1 : ((ints c ++ [Value.bool bad]).drop 0).take 8 = ints ((c.drop 0).take 8) := by rw [← ints_take, ← ints_drop]; simp only [List.drop_zero]; rw [List.take_append_of_le_length (by omega)]
  have p2 : ((ints c ++ [Value.bool bad]).drop 8).take 4 = ints ((c.drop 8).take 4) := by rw [← ints_take, ← ints_drop, List.drop_append_of_le_length (by omega), List.take_append_of_le_length (by simp [hl])]
  have p3 : ((ints c ++ [Value.bool bad]).drop 12).take 16 = ints ((c.drop 12).take 16) := by rw [← ints_take, ← ints_drop, List.drop_append_of_le_length (by omega), List.take_append_of_le_length (by simp [hl])]
  have p4 : ((ints c ++ [Value.bool bad]).drop 28).take 1 = [Value.bool bad] := by rw [List.drop_append_of_le_length (by omega), List.drop_eq_nil_of_le (by omega)]; rfl
  have c1 : Try.prog.cellsOf 65 = 8 := by kernel_rfl
  have c2 : Try.prog.cellsOf 66 = 4 := by kernel_rfl
  have c3 : Try.prog.cellsOf 68 = 16 := by kernel_rfl
  have c4 : Try.prog.cellsOf 4 = 1 := by kernel_rfl
  have c5 : Try.prog.cellsOf 70 = 29 := by kernel_rfl
  rw [← p1] at h1
  rw [← p2] at h2
  rw [← p3] at h3
  rw [← p4] at h4
  have hcs : (ints c ++ [Value.bool bad]).length = 29 := by simp [hl]
  clear p1 p2 p3 p4 e hl
  generalize ints c ++ [Value.bool bad] = cs at *
  generalize d + 1 + 1 + 1 = D at *
  refine ⟨[l1, l2, l3, l4].flatten, ?_⟩
  simp only [Program.keyLits, Try.underlying70, c5, hcs]
  rw [if_pos ⟨trivial, by kernel_rfl⟩]
  simp only [List.mapM_cons, List.mapM_nil, c1, c2, c3, c4, h1, h2, h3, h4]
  rfl
theorem st_key {c : List Int} {bad : Bool} (hc : c.length = 28) (h : ∀ i, i < 28 → inR (g c i)) : ∃ kl, keyOf Try.prog 70 (.agg (stA c bad)) = some kl := by
  obtain ⟨d, hd⟩ : ∃ d, Try.prog.types.size + 1 = d + 1 + 1 + 1 + 1 := ⟨Try.prog.types.size - 3, by have : 3 ≤ Try.prog.types.size := le_ble (by kernel_rfl); omega⟩
  obtain ⟨ls, hls⟩ := st_lits d (bad := bad) hc h
  have hk : Try.prog.keyType 70 = true := by kernel_rfl
  have c5 : Try.prog.cellsOf 70 = 29 := by kernel_rfl
  have hf : (Value.agg (stA c bad)).formed Try.prog 70 = true := by
    simp [Value.formed, Try.underlying70, c5, stA_size hc bad]
  refine ⟨.string (keyBytes ls), ?_⟩
  have hcl : (Value.agg (stA c bad)).cells.toList = (stA c bad).toList := rfl
  simp only [keyOf, Try.underlying70, hk, hf, hcl, hd, hls, Bool.and_self, if_true, Option.map_some]
end Go.Proofs.Ytmpgjnindbklaaa
/-! A map whose keys are states: it holds these. -/
namespace Go.Proofs.Ytmpgjnindbklaaa
open Go.RowKit BA Ex

def MapSt (w : World) (b : Nat) (ss : List St) : Prop :=
  ∃ D : DataW Unit, w.ownsMap Try.prog 70 (plainElem Try.prog 3) b ss.length D ∧ ∀ (s : St) (kl : Lit), keyOf Try.prog 70 (.agg (stA s.c s.bad)) = some kl → (Maps.has D kl = true ↔ s ∈ ss)

theorem stA_inj {s s' : St} (h : Value.agg (stA s.c s.bad) = .agg (stA s'.c s'.bad)) : s = s' := by
  obtain ⟨c, bad⟩ := s
  obtain ⟨c', bad'⟩ := s'
  simp only [Value.agg.injEq, stA] at h
  have h1 : ints c ++ [Value.bool bad] = ints c' ++ [Value.bool bad'] := by simpa using congrArg Array.toList h
  obtain ⟨h2, h3⟩ := List.append_inj' h1 rfl
  simp only [List.cons.injEq, Value.bool.injEq, and_true] at h3
  subst h3
  have h4 : c = c' := by
    have hinj : Function.Injective (Value.int .i64) := fun a b hab => by cases hab; rfl
    exact List.map_inj_right (fun a b hab => hinj hab) |>.1 h2
  subst h4
  rfl
theorem MapSt.made (w : World) : MapSt (w.alloc (.map #[] 0)) w.heap.size [] :=
  ⟨.map [], World.ownsMap_made _ _ _ _, fun s kl _ => by simp [Maps.has_eq]⟩
theorem MapSt.kept {w w' : World} {b : Nat} {ss : List St} {row : Option Nat} (h : MapSt w b ss) (hg : w.grownBy w' row) (hne : some b ≠ row) : MapSt w' b ss :=
  let ⟨D, h1, h2⟩ := h
  ⟨D, h1.kept hg hne, h2⟩
theorem MapSt.lt {w : World} {b : Nat} {ss : List St} (h : MapSt w b ss) : b < w.heap.size := let ⟨_, h1, _⟩ := h; h1.lt
/-- 'v, ok := known[s]' -/
theorem MapSt.look {w : World} {b : Nat} {ss : List St} (h : MapSt w b ss) (s : St) (hc : s.c.length = 28) (hr : ∀ i, i < 28 → inR (g s.c i)) :
    ∃ i, (Instr.lookup 91 (.map (some b)) (.agg (stA s.c s.bad)) true).run Try.prog w = .ok (.tuple #[.int .i64 i, .bool (decide (s ∈ ss))]) w := by
  obtain ⟨D, h1, h2⟩ := h
  obtain ⟨kl, hk⟩ := st_key (bad := s.bad) hc hr
  have hz : (zeroValue 3).run Try.prog w = .ok (.int .i64 0) w := by
    have hi : Try.prog.info? 3 = some Try.t3 := by kernel_rfl
    have h0 : Try.t3.zero = some (.int .i64 0) := rfl
    simp [zeroValue, typeInfo, hi, h0]
  obtain ⟨v, ps, hrun, hv⟩ := h1.look_ok st_keyed Try.underlying91 hz (plainElem_int Try.underlying3 (by decide)) hk
  obtain ⟨i, rfl, _, _⟩ := plainElem_int_inv Try.underlying3 hv
  refine ⟨i, ?_⟩
  have hb : Maps.has D kl = decide (s ∈ ss) := by
    by_cases hm : s ∈ ss
    · rw [decide_eq_true hm]; exact (h2 s kl hk).2 hm
    · rw [decide_eq_false hm]; exact Bool.eq_false_iff.2 fun e => hm ((h2 s kl hk).1 e)
  rw [← hb]
  exact hrun
/-- 'known[s] = i' -/
theorem MapSt.store {w : World} {b : Nat} {ss : List St} (h : MapSt w b ss) (s : St) (hc : s.c.length = 28) (hr : ∀ i, i < 28 → inR (g s.c i)) (v : Int) (hv : inR v) (hn : ss.length < 1000000) :
    ∃ w', (Instr.mapUpdate 91 (.map (some b)) (.agg (stA s.c s.bad)) (.int .i64 v)).run Try.prog w = .ok () w' ∧ MapSt w' b (ss ++ [s]) ∧ w.grownBy w' (some b) := by
  obtain ⟨D, h1, h2⟩ := h
  obtain ⟨kl, hk⟩ := st_key (bad := s.bad) hc hr
  obtain ⟨w', r1, r2, r3⟩ := h1.update st_keyed Try.underlying91 (by unfold maxLen; omega) hk (plainElem_int Try.underlying3 hv)
  refine ⟨w', r1, ⟨_, by rw [List.length_append]; exact r2, fun s' kl' hk' => ?_⟩, r3⟩
  by_cases he : kl' = kl
  · subst he
    have hss : s' = s := stA_inj (st_keyed.inj hk' hk)
    subst hss
    rw [Maps.has_put_same (by obtain ⟨es, clock, _, _, _, rfl⟩ := h1; exact ⟨_, rfl⟩) (st_keyed.key hk)]
    simp
  · rw [Maps.has_put_other he, h2 s' kl' hk', List.mem_append, List.mem_singleton]
    refine ⟨.inl, fun hh => ?_⟩
    rcases hh with hh | rfl
    · exact hh
    · rw [hk] at hk'; cases hk'; exact absurd rfl he
end Go.Proofs.Ytmpgjnindbklaaa
/-! All numbers of a state are numbers of 64 bits. -/
namespace Go.Proofs.Ytmpgjnindbklaaa
open Go.RowKit BA Ex

theorem inR_iff (n : Int) : inR n ↔ -9223372036854775808 ≤ n ∧ n ≤ 9223372036854775807 := by
  unfold inR
  have hm : IntKind.i64.min = -9223372036854775808 := by decide
  simp [Lit.wf, hm]
theorem inR_w64 (n : Int) : inR (w64 n) := by rw [inR_iff]; unfold w64 RowKit.wrap64; omega
def allR (l : List Int) : Prop := ∀ i, inR (g l i)
theorem allR_set {l : List Int} (h : allR l) (i : Nat) {v : Int} (hv : inR v) : allR (l.set i v) := by
  intro j
  by_cases hij : i = j
  · subst hij
    by_cases hl : i < l.length
    · rw [gset_eq _ hl]; exact hv
    · have := h i
      rwa [List.set_eq_of_length_le (by omega)]
  · rw [gset_ne _ hij]; exact h j
/-- Numbers of 64 bits in a little program. -/
structure PIn (p : Lt) : Prop where
  words : allR p.words
  lines : ∀ k, k < p.threads.length → ∀ i, i < (p.threads.getD k []).length → inR ((p.threads.getD k []).getD i default).b ∧ inR ((p.threads.getD k []).getD i default).c
theorem inR_zero : inR 0 := rfl
theorem inR_one : inR 1 := rfl
theorem first_in {p : Lt} (h : PIn p) : allR (first p).c := by
  intro i
  simp only [first]
  by_cases hi : i < p.words.length
  · rw [show g (p.words ++ List.replicate (28 - p.words.length) 0) i = g p.words i by simp [g, List.getD_eq_getElem?_getD, List.getElem?_append_left hi]]
    exact h.words i
  · rw [show g (p.words ++ List.replicate (28 - p.words.length) 0) i = 0 by
      simp [g, List.getD_eq_getElem?_getD, List.getElem?_append_right (by omega : p.words.length ≤ i), List.getElem?_replicate]; split <;> rfl]
    exact inR_zero
theorem shared_in {c : List Int} {r : Nat} {x : Ln} (h : allR c) : allR (shared c r x) := by
  unfold shared
  split
  · exact allR_set h _ (h _)
  split
  · exact allR_set h _ (h _)
  split
  · exact allR_set (allR_set h _ (h _)) _ (inR_w64 _)
  split
  · exact allR_set (allR_set h _ (h _)) _ (h _)
  split
  · split
    · exact allR_set (allR_set h _ (h _)) _ inR_one
    · exact allR_set h _ inR_zero
  · exact h
theorem own_in {c : List Int} {r : Nat} {x : Ln} {a : Int} (h : allR c) (hb : inR x.b) (hc : inR x.c) : allR (own c r x a).1 ∧ inR (own c r x a).2.1 := by
  unfold own
  split
  · exact ⟨allR_set h _ hb, inR_w64 _⟩
  split
  · exact ⟨allR_set h _ (inR_w64 _), inR_w64 _⟩
  split
  · refine ⟨h, ?_⟩
    dsimp only
    split
    · exact hc
    · exact inR_w64 _
  split
  · exact ⟨h, hc⟩
  split
  · exact ⟨h, inR_w64 _⟩
  · exact ⟨h, inR_w64 _⟩
theorem step_in {p : Lt} {s s' : St} {k : Nat} (hp : PIn p) (hw : Wf p s) (hs : allR s.c) (h : Ex.step p s k = some s') : allR s'.c := by
  obtain ⟨x, hb, hx, rfl⟩ := step_some h
  obtain ⟨hk, hlt, rfl⟩ := lineAt_some hx
  have h0 := (hw.at' k hk).1
  obtain ⟨hb', hc'⟩ := hp.lines k hk (g s.c (8 + k)).toNat (by omega)
  obtain ⟨q1, q2⟩ := own_in (r := 12 + 4 * k) (a := g s.c (8 + k)) (shared_in (r := 12 + 4 * k) (x := (p.threads.getD k []).getD (g s.c (8 + k)).toNat default) hs) hb' hc'
  exact allR_set q1 _ q2
end Go.Proofs.Ytmpgjnindbklaaa
/-! How 'goes' goes round, plainly. -/
namespace Go.Proofs.Ytmpgjnindbklaaa.Ex
open Go.Proofs.Ytmpgjnindbklaaa

/-- What the list of met states keeps. -/
structure LInv (p : Lt) (l : List Met) : Prop where
  wf : ∀ m ∈ l, Wf p m.s ∧ allR m.s.c
  short : l.length ≤ most
  some' : 0 < l.length

theorem LInv.first {p : Lt} (hp : check p = true) (hi : PIn p) : LInv p [⟨first p, -1, -1⟩] :=
  ⟨fun m hm => by simp only [List.mem_singleton] at hm; subst hm; exact ⟨first_wf hp, first_in hi⟩, by simp [most], by simp⟩
theorem LInv.at' {p : Lt} {l : List Met} (h : LInv p l) {i : Nat} (hi : i < l.length) : Wf p (l.getD i default).s ∧ allR (l.getD i default).s.c := by
  have : l.getD i default = l[i] := by simp [List.getD_eq_getElem?_getD, hi]
  rw [this]
  exact h.wf _ (List.getElem_mem hi)
theorem LInv.push {p : Lt} {l : List Met} (h : LInv p l) (hp : check p = true) (hi : PIn p) {i k : Nat} (hil : i < l.length) {s : St} (hs : step p (l.getD i default).s k = some s) (hl : l.length ≠ most) (f b : Int) : LInv p (l ++ [⟨s, f, b⟩]) := by
  obtain ⟨w1, w2⟩ := h.at' hil
  refine ⟨fun m hm => ?_, by have := h.short; simp; omega, by simp⟩
  rcases List.mem_append.1 hm with hm | hm
  · exact h.wf m hm
  · simp only [List.mem_singleton] at hm
    subst hm
    exact ⟨step_wf hp w1 hs, step_in hi w1 w2 hs⟩

/-- Where the rounds over threads stand. -/
def inRound (p : Lt) (i : Nat) (l : List Met) (k : Nat) : Prop :=
  (match from' p i l k (p.threads.length - k) with
    | none => none
    | some l' => goesOn p (most - i) (i + 1) l') = goes p
def atRound (p : Lt) (i : Nat) (l : List Met) : Prop := goesOn p (most + 1 - i) i l = goes p

theorem atRound_first (p : Lt) : atRound p 0 [⟨first p, -1, -1⟩] := rfl
theorem atRound_done {p : Lt} {l : List Met} (h : atRound p l.length l) (hl : l.length ≤ most) : goes p = some l := by
  unfold atRound at h
  obtain ⟨n, hn⟩ : ∃ n, most + 1 - l.length = n + 1 := ⟨most - l.length, by omega⟩
  rw [hn] at h
  rw [← h]
  unfold goesOn
  rw [if_neg (Nat.lt_irrefl _)]
theorem atRound_in {p : Lt} {i : Nat} {l : List Met} (h : atRound p i l) (hil : i < l.length) (hl : l.length ≤ most) : inRound p i l 0 := by
  unfold atRound at h
  obtain ⟨n, hn⟩ : ∃ n, most + 1 - i = n + 1 := ⟨most - i, by omega⟩
  have hn' : n = most - i := by omega
  rw [hn] at h
  unfold inRound
  rw [← h, Nat.sub_zero, ← hn']
  conv => rhs; unfold goesOn
  rw [if_pos hil]
  cases from' p i l 0 p.threads.length <;> rfl
theorem inRound_out {p : Lt} {i : Nat} {l : List Met} (h : inRound p i l p.threads.length) : atRound p (i + 1) l := by
  unfold inRound at h
  rw [Nat.sub_self] at h
  unfold atRound
  rw [show most + 1 - (i + 1) = most - i by omega]
  exact h
theorem inRound_none {p : Lt} {i k : Nat} {l : List Met} (h : inRound p i l k) (hk : k < p.threads.length) (ho : one p i l k = none) : goes p = none := by
  unfold inRound at h
  obtain ⟨n, hn⟩ : ∃ n, p.threads.length - k = n + 1 := ⟨p.threads.length - k - 1, by omega⟩
  rw [hn] at h
  rw [← h]
  unfold from'
  rw [ho]
theorem inRound_some {p : Lt} {i k : Nat} {l l' : List Met} (h : inRound p i l k) (hk : k < p.threads.length) (ho : one p i l k = some l') : inRound p i l' (k + 1) := by
  unfold inRound at h
  obtain ⟨n, hn⟩ : ∃ n, p.threads.length - k = n + 1 := ⟨p.threads.length - k - 1, by omega⟩
  rw [hn] at h
  unfold from' at h
  rw [ho] at h
  unfold inRound
  rw [show p.threads.length - (k + 1) = n by omega]
  exact h
theorem one_stay {p : Lt} {i k : Nat} {l : List Met} (h : step p (l.getD i default).s k = none) : one p i l k = some l := by
  unfold one; rw [h]
theorem one_old {p : Lt} {i k : Nat} {l : List Met} {s : St} (h : step p (l.getD i default).s k = some s) (hm : s ∈ l.map (·.s)) : one p i l k = some l := by
  unfold one; rw [h]; simp only [if_pos hm]
theorem one_many {p : Lt} {i k : Nat} {l : List Met} {s : St} (h : step p (l.getD i default).s k = some s) (hm : s ∉ l.map (·.s)) (hl : l.length = most) : one p i l k = none := by
  unfold one; rw [h]; simp only [if_neg hm, if_pos hl]
theorem one_new {p : Lt} {i k : Nat} {l : List Met} {s : St} (h : step p (l.getD i default).s k = some s) (hm : s ∉ l.map (·.s)) (hl : l.length ≠ most) : one p i l k = some (l ++ [⟨s, i, k⟩]) := by
  unfold one; rw [h]; simp only [if_neg hm, if_neg hl]
end Go.Proofs.Ytmpgjnindbklaaa.Ex
/-! A slice of met states in memory: 31 cells each. -/
namespace Go.Proofs.Ytmpgjnindbklaaa
open Go.RowKit BA Ex

def metC (m : Met) : List Value := (stA m.s.c m.s.bad).toList ++ [.int .i64 m.fr, .int .i64 m.by']
def flatM (l : List Met) : List Value := l.flatMap metC
theorem metC_len {m : Met} (h : m.s.c.length = 28) : (metC m).length = 31 := by simp [metC, stA, ints, h]
theorem metC_one (m : Met) : ∀ u ∈ metC m, u.oneCell' = true := by
  intro u hu
  simp only [metC, List.mem_append, List.mem_cons, List.not_mem_nil, or_false] at hu
  rcases hu with hu | rfl | rfl
  · have := stA_one m.s.c m.s.bad
    rw [Array.all_eq_true_iff_forall_mem] at this
    exact this u (by simpa using hu)
  · rfl
  · rfl
theorem flatM_append (l : List Met) (m : Met) : flatM (l ++ [m]) = flatM l ++ metC m := by simp [flatM]
theorem flatM_len {l : List Met} (h : ∀ m ∈ l, m.s.c.length = 28) : (flatM l).length = l.length * 31 := by
  induction l with
  | nil => rfl
  | cons m l ih =>
    have h1 := metC_len (h m (by simp))
    have h2 := ih (fun x hx => h x (by simp [hx]))
    have e : flatM (m :: l) = metC m ++ flatM l := rfl
    rw [e, List.length_append, h1, h2, List.length_cons]
    omega
theorem flatM_get {l : List Met} (h : ∀ m ∈ l, m.s.c.length = 28) {i j : Nat} (hi : i < l.length) (hj : j < 31) : (flatM l)[i * 31 + j]? = (metC (l.getD i default))[j]? := by
  induction l generalizing i with
  | nil => simp at hi
  | cons m l ih =>
    have h1 := metC_len (h m (by simp))
    have e : flatM (m :: l) = metC m ++ flatM l := rfl
    rw [e]
    cases i with
    | zero => rw [List.getElem?_append_left (by omega)]; simp
    | succ i =>
      rw [List.getElem?_append_right (by omega), h1, show (i + 1) * 31 + j - 31 = i * 31 + j by omega, ih (fun x hx => h x (by simp [hx])) (by simpa using hi)]
      simp
/-- A met state's cells. -/
theorem mets_at {w : World} {base : Nat} {v : Value} {l : List Met} (h : OwnS w base 31 v l.length (flatM l)) (hl : ∀ m ∈ l, m.s.c.length = 28) {i : Nat} (hi : i < l.length) :
    ∃ b cap, v = .slice (some ⟨b, 0, none⟩) l.length cap ∧ base ≤ b ∧ b < w.heap.size ∧ w.rangeAt b (i * 31) (stA (l.getD i default).s.c (l.getD i default).s.bad).toList ∧
      w.cell? ⟨b, i * 31 + 28, none⟩ = some (.bool (l.getD i default).s.bad) ∧ w.cell? ⟨b, i * 31 + 29, none⟩ = some (.int .i64 (l.getD i default).fr) ∧ w.cell? ⟨b, i * 31 + 30, none⟩ = some (.int .i64 (l.getD i default).by') := by
  have hm : (l.getD i default).s.c.length = 28 := by
    have e : l.getD i default = l[i] := by simp [List.getD_eq_getElem?_getD, hi]
    rw [e]; exact hl _ (List.getElem_mem hi)
  generalize hmE : l.getD i default = m at hm ⊢
  have hb := h
  obtain ⟨te, h⟩ := h
  rcases h.2 with ⟨_, h0⟩ | ⟨b, cap, cur, rfl, hbb, hg, _, _, _, _⟩
  · omega
  · have key : ∀ j u, j < 31 → (metC m)[j]? = some u → w.cell? ⟨b, i * 31 + j, none⟩ = some u := by
      intro j u hj hu
      have := h.cells (g := b) rfl (i * 31 + j) u (by rw [flatM_get hl hi hj, hmE]; exact hu)
      rw [Addr.add_lit] at this
      simpa using this
    have hs : (stA m.s.c m.s.bad).toList.length = 29 := by simp [stA, ints, hm]
    refine ⟨b, cap, rfl, hbb, (hb.blk b rfl).2, fun j u hu => ?_, key 28 _ (by omega) ?_, key 29 _ (by omega) ?_, key 30 _ (by omega) ?_⟩
    · have hj : j < 29 := by have := (List.getElem?_eq_some_iff.1 hu).1; omega
      exact key j u (by omega) (by unfold metC; rw [List.getElem?_append_left (by omega)]; exact hu)
    · unfold metC; rw [List.getElem?_append_left (by omega)]; simp [stA, ints, hm]
    · unfold metC; rw [List.getElem?_append_right (by omega), hs]; rfl
    · unfold metC; rw [List.getElem?_append_right (by omega), hs]; rfl
end Go.Proofs.Ytmpgjnindbklaaa
namespace Go.Proofs.Ytmpgjnindbklaaa
open Go.RowKit BA Ex

set_option maxRecDepth 100000 in
theorem built_met' (x0 x1 x2 x3 x4 x5 x6 x7 x8 x9 x10 x11 x12 x13 x14 x15 x16 x17 x18 x19 x20 x21 x22 x23 x24 x25 x26 x27 : Int) (bad : Bool) (f b : Int) : Try.prog.built 72 [(0, .agg (stA [x0, x1, x2, x3, x4, x5, x6, x7, x8, x9, x10, x11, x12, x13, x14, x15, x16, x17, x18, x19, x20, x21, x22, x23, x24, x25, x26, x27] bad)), (1, .int .i64 f), (2, .int .i64 b)] = some (metC ⟨⟨[x0, x1, x2, x3, x4, x5, x6, x7, x8, x9, x10, x11, x12, x13, x14, x15, x16, x17, x18, x19, x20, x21, x22, x23, x24, x25, x26, x27], bad⟩, f, b⟩).toArray := by kernel_rfl
theorem built_met {c : List Int} (hc : c.length = 28) (bad : Bool) (f b : Int) : Try.prog.built 72 [(0, .agg (stA c bad)), (1, .int .i64 f), (2, .int .i64 b)] = some (metC ⟨⟨c, bad⟩, f, b⟩).toArray :=
  match c, hc with
  | [x0, x1, x2, x3, x4, x5, x6, x7, x8, x9, x10, x11, x12, x13, x14, x15, x16, x17, x18, x19, x20, x21, x22, x23, x24, x25, x26, x27], _ => built_met' x0 x1 x2 x3 x4 x5 x6 x7 x8 x9 x10 x11 x12 x13 x14 x15 x16 x17 x18 x19 x20 x21 x22 x23 x24 x25 x26 x27 bad f b

set_option maxRecDepth 100000 in
theorem fill_met' (x0 x1 x2 x3 x4 x5 x6 x7 x8 x9 x10 x11 x12 x13 x14 x15 x16 x17 x18 x19 x20 x21 x22 x23 x24 x25 x26 x27 : Int) (bad : Bool) (f b : Int) : Instr.fill (fun i => some (i * Try.t72.size, Try.t72.size)) ((Array.range (1 * Try.t72.size)).map ((Try.t72.zero.getD undef).cells[· % (Try.t72.zero.getD undef).cells.size]!)) [(0, .agg (metC ⟨⟨[x0, x1, x2, x3, x4, x5, x6, x7, x8, x9, x10, x11, x12, x13, x14, x15, x16, x17, x18, x19, x20, x21, x22, x23, x24, x25, x26, x27], bad⟩, f, b⟩).toArray)] = some (metC ⟨⟨[x0, x1, x2, x3, x4, x5, x6, x7, x8, x9, x10, x11, x12, x13, x14, x15, x16, x17, x18, x19, x20, x21, x22, x23, x24, x25, x26, x27], bad⟩, f, b⟩).toArray := by kernel_rfl
theorem fill_met {c : List Int} (hc : c.length = 28) (bad : Bool) (f b : Int) : Instr.fill (fun i => some (i * Try.t72.size, Try.t72.size)) ((Array.range (1 * Try.t72.size)).map ((Try.t72.zero.getD undef).cells[· % (Try.t72.zero.getD undef).cells.size]!)) [(0, .agg (metC ⟨⟨c, bad⟩, f, b⟩).toArray)] = some (metC ⟨⟨c, bad⟩, f, b⟩).toArray :=
  match c, hc with
  | [x0, x1, x2, x3, x4, x5, x6, x7, x8, x9, x10, x11, x12, x13, x14, x15, x16, x17, x18, x19, x20, x21, x22, x23, x24, x25, x26, x27], _ => fill_met' x0 x1 x2 x3 x4 x5 x6 x7 x8 x9 x10 x11 x12 x13 x14 x15 x16 x17 x18 x19 x20 x21 x22 x23 x24 x25 x26 x27 bad f b
end Go.Proofs.Ytmpgjnindbklaaa
