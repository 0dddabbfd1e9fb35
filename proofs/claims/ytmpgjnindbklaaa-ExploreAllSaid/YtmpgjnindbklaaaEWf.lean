import Derived.Test.YtmpgjnindbklaaaEHas
/-! States that can be: 28 numbers, each thread at a line of its own or behind the last. No program in sight. -/
namespace Go.Proofs.Ytmpgjnindbklaaa.Ex
open Go.Proofs.Ytmpgjnindbklaaa

structure Wf (p : Lt) (s : St) : Prop where
  len : s.c.length = 28
  at' : ∀ j, j < p.threads.length → 0 ≤ g s.c (8 + j) ∧ g s.c (8 + j) ≤ ((p.threads.getD j []).length : Int)

theorem gset_ne {c : List Int} {j m : Nat} (v : Int) (h : j ≠ m) : g (c.set j v) m = g c m := by
  simp [g, List.getD_eq_getElem?_getD, h]
theorem gset_eq {c : List Int} {j : Nat} (v : Int) (h : j < c.length) : g (c.set j v) j = v := by
  simp [g, List.getD_eq_getElem?_getD, h]

theorem shared_len (c : List Int) (r : Nat) (x : Ln) : (shared c r x).length = c.length := by
  unfold shared
  repeat' split
  all_goals simp
theorem own_len (c : List Int) (r : Nat) (x : Ln) (a : Int) : (own c r x a).1.length = c.length := by
  unfold own
  repeat' split
  all_goals simp

theorem shared_place {c : List Int} {n lines k j : Nat} {x : Ln} (hok : lineOK n lines x = true) (hn : n ≤ 8) (hk : k < 4) (hj : j < 4) : g (shared c (12 + 4 * k) x) (8 + j) = g c (8 + j) := by
  obtain ⟨op, a, b, k'⟩ := x
  unfold lineOK at hok
  unfold shared
  simp only [reg, word, place] at hok
  repeat' split
  all_goals (simp_all; try (repeat rw [gset_ne _ (by omega)]))
theorem own_place {c : List Int} {k j : Nat} {x : Ln} {a : Int} (hj : j < 4) : g (own c (12 + 4 * k) x a).1 (8 + j) = g c (8 + j) := by
  unfold own
  repeat' split
  all_goals (dsimp only; try rw [gset_ne _ (by omega)])

theorem own_next {c : List Int} {n lines r : Nat} {x : Ln} {a : Int} (hok : lineOK n lines x = true) (ha : 0 ≤ a) (hal : a < lines) (h40 : lines ≤ 40) : 0 ≤ (own c r x a).2.1 ∧ (own c r x a).2.1 ≤ (lines : Int) := by
  have hw : w64 (a + 1) = a + 1 := by unfold w64 RowKit.wrap64; omega
  obtain ⟨op, xa, b, k'⟩ := x
  unfold lineOK at hok
  unfold own
  simp only [reg, word, place] at hok
  by_cases h8 : op = 8
  · subst h8
    simp at hok
    simp only [Int.reduceEq, if_false, if_true]
    split
    · exact hok.2
    · omega
  · by_cases h9 : op = 9
    · subst h9
      simp at hok
      simp only [Int.reduceEq, if_false, if_true]
      exact hok
    · simp only [h8, h9, if_false]
      repeat' split
      all_goals (dsimp only; omega)

theorem lineAt_some {p : Lt} {c : List Int} {k : Nat} {x : Ln} (h : lineAt p c k = some x) :
    k < p.threads.length ∧ g c (8 + k) < ((p.threads.getD k []).length : Int) ∧ x = (p.threads.getD k []).getD (g c (8 + k)).toNat default := by
  unfold lineAt at h
  split at h
  · cases h
  · rename_i t ht
    obtain ⟨hk, rfl⟩ := List.getElem?_eq_some_iff.1 ht
    have e : p.threads.getD k [] = p.threads[k] := by simp [List.getD_eq_getElem?_getD, hk]
    rw [e]
    split at h
    · rename_i hlt
      exact ⟨hk, hlt, by simpa using h.symm⟩
    · cases h
theorem lineAt_none {p : Lt} {c : List Int} {k : Nat} (hk : k < p.threads.length) (h : lineAt p c k = none) : ((p.threads.getD k []).length : Int) ≤ g c (8 + k) := by
  unfold lineAt at h
  rw [List.getElem?_eq_getElem hk] at h
  have e : p.threads.getD k [] = p.threads[k] := by simp [List.getD_eq_getElem?_getD, hk]
  rw [e]
  dsimp only at h
  split at h
  · cases h
  · omega

theorem check_facts {p : Lt} (h : check p = true) : (p.words.length ≠ 0 ∧ p.words.length ≤ 8 ∧ p.threads.length ≠ 0 ∧ p.threads.length ≤ 4) ∧
    ∀ k, k < p.threads.length → (p.threads.getD k []).length ≤ 40 ∧ ∀ i, i < (p.threads.getD k []).length → lineOK p.words.length (p.threads.getD k []).length ((p.threads.getD k []).getD i default) = true :=
  let ⟨h1, h2⟩ := (check_iff p).1 h
  ⟨h1, fun k hk => ⟨(h2 k hk).1, fun i hi => (h2 k hk).2 i hi⟩⟩

theorem first_wf {p : Lt} (h : check p = true) : Wf p (first p) := by
  have hc := check_facts h
  refine ⟨by simp [first]; omega, fun j hj => ?_⟩
  have : g (first p).c (8 + j) = 0 := by
    simp only [first, g, List.getD_eq_getElem?_getD]
    rw [List.getElem?_append_right (by omega), List.getElem?_replicate]
    split <;> rfl
  rw [this]
  exact ⟨Int.le_refl 0, by omega⟩

theorem step_some {p : Lt} {s s' : St} {k : Nat} (h : step p s k = some s') : ∃ x, s.bad = false ∧ lineAt p s.c k = some x ∧
    s' = ⟨(own (shared s.c (12 + 4 * k) x) (12 + 4 * k) x (g s.c (8 + k))).1.set (8 + k) (own (shared s.c (12 + 4 * k) x) (12 + 4 * k) x (g s.c (8 + k))).2.1, (own (shared s.c (12 + 4 * k) x) (12 + 4 * k) x (g s.c (8 + k))).2.2⟩ := by
  unfold step at h
  split at h
  · cases h
  · rename_i hb
    split at h
    · cases h
    · rename_i x hx
      exact ⟨x, by simpa using hb, hx, by simpa using h.symm⟩

theorem step_wf {p : Lt} {s s' : St} {k : Nat} (hp : check p = true) (hw : Wf p s) (h : step p s k = some s') : Wf p s' := by
  obtain ⟨x, hb, hx, rfl⟩ := step_some h
  obtain ⟨hk, hlt, rfl⟩ := lineAt_some hx
  obtain ⟨⟨_, h8, _, h4⟩, hT⟩ := check_facts hp
  have h0 := (hw.at' k hk).1
  have hok := (hT k hk).2 (g s.c (8 + k)).toNat (by omega)
  generalize (p.threads.getD k []).getD (g s.c (8 + k)).toNat default = x at hok
  have hl := hw.len
  refine ⟨by rw [List.length_set, own_len, shared_len]; exact hl, fun j hj => ?_⟩
  by_cases hjk : j = k
  · subst hjk
    dsimp only
    rw [gset_eq _ (by rw [own_len, shared_len]; omega)]
    exact own_next hok h0 hlt (hT j hj).1
  · dsimp only
    rw [gset_ne _ (by omega), own_place (by omega), shared_place hok h8 (by omega) (by omega)]
    exact hw.at' j hj
end Go.Proofs.Ytmpgjnindbklaaa.Ex
