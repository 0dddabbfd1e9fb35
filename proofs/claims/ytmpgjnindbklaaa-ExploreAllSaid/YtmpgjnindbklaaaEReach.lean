import Derived.Test.YtmpgjnindbklaaaETold
/-! Which states steps come to, plainly: the list of 'goes' holds each of them once, in the order of how many steps it takes. -/
namespace Go.Proofs.Ytmpgjnindbklaaa.Ex
open Go.Proofs.Ytmpgjnindbklaaa

/-- So many steps from the first state. -/
inductive Path (p : Lt) : Nat → St → Prop
  | first : Path p 0 (first p)
  | step {n : Nat} {s s' : St} {k : Nat} : Path p n s → step p s k = some s' → Path p (n + 1) s'

theorem step_lt {p : Lt} {s s' : St} {k : Nat} (h : step p s k = some s') : k < p.threads.length := by
  apply Classical.byContradiction
  intro hk
  have e : lineAt p s.c k = none := by unfold lineAt; rw [List.getElem?_eq_none (by omega)]
  unfold step at h
  rw [e] at h
  split at h <;> cases h

abbrev at' (l : List Met) (k : Nat) : Met := l.getD k default

/-- What the rounds of 'goes' keep: all threads of the states ahead of 'i' are done, of 'i' those ahead of 'k'. -/
structure Inv (p : Lt) (l : List Met) (i k : Nat) : Prop where
  pos : 0 < l.length
  head : at' l 0 = ⟨first p, -1, -1⟩
  sound : ∀ n, 0 < n → n < l.length → ∃ a b : Nat, (at' l n).fr = a ∧ (at' l n).by' = b ∧ a < n ∧ step p (at' l a).s b = some (at' l n).s
  nodup : (l.map (·.s)).Nodup
  mono : ∀ n m, n ≤ m → m < l.length → (at' l n).fr ≤ (at' l m).fr
  low : ∀ n, n < l.length → (at' l n).fr ≤ i
  closed : ∀ a b, a < l.length → (a < i ∨ a = i ∧ b < k) → ∀ s', step p (at' l a).s b = some s' → ∃ n, n < l.length ∧ (at' l n).s = s' ∧ (at' l n).fr ≤ a

theorem at_push_old {l : List Met} {m : Met} {n : Nat} (h : n < l.length) : at' (l ++ [m]) n = at' l n := by
  simp [at', List.getD_eq_getElem?_getD, List.getElem?_append_left h]
theorem at_push_new {l : List Met} {m : Met} : at' (l ++ [m]) l.length = m := by
  simp [at', List.getD_eq_getElem?_getD]
theorem mem_at {l : List Met} {s : St} (h : s ∈ l.map (·.s)) : ∃ n, n < l.length ∧ (at' l n).s = s := by
  obtain ⟨m, hm, rfl⟩ := List.mem_map.1 h
  obtain ⟨n, hn, rfl⟩ := List.getElem_of_mem hm
  exact ⟨n, hn, by simp [at', List.getD_eq_getElem?_getD, hn]⟩
theorem at_mem {l : List Met} {n : Nat} (h : n < l.length) : (at' l n).s ∈ l.map (·.s) := by
  have e : at' l n = l[n] := by simp [at', List.getD_eq_getElem?_getD, h]
  rw [e]
  exact List.mem_map_of_mem (List.getElem_mem h)

theorem Inv.first (p : Lt) : Inv p [⟨first p, -1, -1⟩] 0 0 where
  pos := by simp
  head := rfl
  sound n h0 hn := by simp at hn; omega
  nodup := by simp
  mono n m hnm hm := by
    have h1 : m = 0 := by simp at hm; omega
    have h2 : n = 0 := by omega
    subst h1 h2
    exact Int.le_refl _
  low n hn := by
    have h1 : n = 0 := by simp at hn; omega
    subst h1
    show (-1 : Int) ≤ ((0 : Nat) : Int)
    decide
  closed a b _ h := by omega
theorem Inv.next {p : Lt} {l : List Met} {i : Nat} (h : Inv p l i p.threads.length) : Inv p l (i + 1) 0 :=
  { h with
    low := fun n hn => by have := h.low n hn; omega
    closed := fun a b ha hab s' hs => h.closed a b ha (by have := step_lt hs; omega) s' hs }
theorem Inv.one {p : Lt} {l l' : List Met} {i k : Nat} (h : Inv p l i k) (hi : i < l.length) (ho : one p i l k = some l') : Inv p l' i (k + 1) := by
  unfold Ex.one at ho
  cases hs : step p (l.getD i default).s k with
  | none =>
    rw [hs] at ho
    cases ho
    exact { h with
      closed := fun a b ha hab s' hs' => by
        by_cases hb : a = i ∧ b = k
        · obtain ⟨rfl, rfl⟩ := hb
          change step p (at' l a).s b = none at hs
          rw [hs] at hs'; cases hs'
        · exact h.closed a b ha (by omega) s' hs' }
  | some s =>
    rw [hs] at ho
    by_cases hm : s ∈ l.map (·.s)
    · simp only [if_pos hm] at ho
      cases ho
      exact { h with
        closed := fun a b ha hab s' hs' => by
          by_cases hb : a = i ∧ b = k
          · obtain ⟨rfl, rfl⟩ := hb
            change step p (at' l a).s b = some s at hs
            rw [hs] at hs'; cases hs'
            obtain ⟨n, hn, e⟩ := mem_at hm
            exact ⟨n, hn, e, h.low n hn⟩
          · exact h.closed a b ha (by omega) s' hs' }
    · simp only [if_neg hm] at ho
      split at ho
      · cases ho
      · cases ho
        have hlen : (l ++ [(⟨s, i, k⟩ : Met)]).length = l.length + 1 := by simp
        refine { pos := by omega, head := ?_, sound := ?_, nodup := ?_, mono := ?_, low := ?_, closed := ?_ }
        · rw [at_push_old h.pos]; exact h.head
        · intro n h0 hn
          by_cases hn' : n < l.length
          · obtain ⟨a, b, e1, e2, h3, h4⟩ := h.sound n h0 hn'
            refine ⟨a, b, ?_, ?_, h3, ?_⟩
            · rw [at_push_old hn']; exact e1
            · rw [at_push_old hn']; exact e2
            · rw [at_push_old hn', at_push_old (by omega)]; exact h4
          · obtain rfl : n = l.length := by omega
            refine ⟨i, k, ?_, ?_, hi, ?_⟩
            · rw [at_push_new]
            · rw [at_push_new]
            · rw [at_push_new, at_push_old hi]; exact hs
        · rw [List.map_append, List.nodup_append]
          refine ⟨h.nodup, by simp, fun a ha b hb => ?_⟩
          simp only [List.map_cons, List.map_nil, List.mem_singleton] at hb
          subst hb
          intro e
          subst e
          exact hm ha
        · intro n m hnm hml
          by_cases hm' : m < l.length
          · rw [at_push_old hm', at_push_old (by omega)]; exact h.mono n m hnm hm'
          · obtain rfl : m = l.length := by omega
            rw [at_push_new]
            by_cases hn' : n < l.length
            · rw [at_push_old hn']; exact h.low n hn'
            · obtain rfl : n = l.length := by omega
              rw [at_push_new]
              exact Int.le_refl _
        · intro n hn
          by_cases hn' : n < l.length
          · rw [at_push_old hn']; exact h.low n hn'
          · obtain rfl : n = l.length := by omega
            rw [at_push_new]
            exact Int.le_refl _
        · intro a b ha hab s' hs'
          have ha' : a < l.length := by omega
          rw [at_push_old ha'] at hs'
          by_cases hb : a = i ∧ b = k
          · obtain ⟨rfl, rfl⟩ := hb
            change step p (at' l a).s b = some s at hs
            rw [hs] at hs'; cases hs'
            exact ⟨l.length, by omega, by rw [at_push_new], by rw [at_push_new]; exact Int.le_refl _⟩
          · obtain ⟨n, hn, e, hl⟩ := h.closed a b ha' (by omega) s' hs'
            exact ⟨n, by omega, by rw [at_push_old hn]; exact e, by rw [at_push_old hn]; exact hl⟩
theorem one_grows {p : Lt} {l l' : List Met} {i k : Nat} (ho : one p i l k = some l') (hl : l.length ≤ most) : l.length ≤ l'.length ∧ l'.length ≤ most := by
  unfold Ex.one at ho
  split at ho
  · cases ho; exact ⟨Nat.le_refl _, hl⟩
  · split at ho
    · cases ho; exact ⟨Nat.le_refl _, hl⟩
    · split at ho
      · cases ho
      · cases ho; simp; omega
theorem Inv.from' {p : Lt} {i : Nat} : ∀ (n k : Nat) {l l' : List Met}, Inv p l i k → i < l.length → l.length ≤ most → from' p i l k n = some l' → Inv p l' i (k + n) ∧ l.length ≤ l'.length ∧ l'.length ≤ most
  | 0, _, l, l', h, _, hl, ho => by cases ho; exact ⟨h, Nat.le_refl _, hl⟩
  | n + 1, k, l, l', h, hi, hl, ho => by
    unfold Ex.from' at ho
    cases h1 : Ex.one p i l k with
    | none => rw [h1] at ho; cases ho
    | some l1 =>
      rw [h1] at ho
      obtain ⟨g1, g2⟩ := one_grows h1 hl
      obtain ⟨h4, h5, h6⟩ := Inv.from' n (k + 1) (h.one hi h1) (by omega) g2 ho
      exact ⟨by rw [show k + (n + 1) = k + 1 + n by omega]; exact h4, by omega, h6⟩
theorem Inv.goesOn {p : Lt} : ∀ (n i : Nat) {l l' : List Met}, Inv p l i 0 → l.length ≤ most → n + i = most + 1 → goesOn p n i l = some l' → ∃ j, Inv p l' j 0 ∧ l'.length ≤ j ∧ l'.length ≤ most
  | 0, i, l, l', h, hl, hni, ho => by cases ho; exact ⟨i, h, by omega, hl⟩
  | n + 1, i, l, l', h, hl, hni, ho => by
    unfold Ex.goesOn at ho
    by_cases hi : i < l.length
    · rw [if_pos hi] at ho
      cases h1 : Ex.from' p i l 0 p.threads.length with
      | none => rw [h1] at ho; cases ho
      | some l1 =>
        rw [h1] at ho
        obtain ⟨h2, h3, h4⟩ := Inv.from' _ 0 h hi hl h1
        rw [Nat.zero_add] at h2
        exact Inv.goesOn n (i + 1) h2.next h4 (by omega) ho
    · rw [if_neg hi] at ho; cases ho; exact ⟨i, h, by omega, hl⟩
/-- What 'goes' comes to: each state once; whatever a step comes to is there. -/
structure Reach (p : Lt) (l : List Met) : Prop where
  pos : 0 < l.length
  short : l.length ≤ most
  head : at' l 0 = ⟨Ex.first p, -1, -1⟩
  sound : ∀ n, 0 < n → n < l.length → ∃ a b : Nat, (at' l n).fr = a ∧ (at' l n).by' = b ∧ a < n ∧ step p (at' l a).s b = some (at' l n).s
  nodup : (l.map (·.s)).Nodup
  mono : ∀ n m, n ≤ m → m < l.length → (at' l n).fr ≤ (at' l m).fr
  closed : ∀ a b, a < l.length → ∀ s', step p (at' l a).s b = some s' → ∃ n, n < l.length ∧ (at' l n).s = s' ∧ (at' l n).fr ≤ a
theorem goes_reach {p : Lt} {l : List Met} (h : goes p = some l) : Reach p l := by
  obtain ⟨j, hI, hj, hl⟩ := Inv.goesOn (most + 1) 0 (Inv.first p) (by simp [most]) rfl h
  exact ⟨hI.pos, hl, hI.head, hI.sound, hI.nodup, hI.mono, fun a b ha s' hs => hI.closed a b ha (.inl (by omega)) s' hs⟩

/-- So many steps back to the first state. -/
def level (l : List Met) (k : Nat) : Nat := (backs l k).length
namespace Reach
variable {p : Lt} {l : List Met}
theorem lnk (h : Reach p l) : Lnk p l := fun k hk => by
  show (at' l k).fr < k ∧ _
  by_cases h0 : 0 < k
  · obtain ⟨a, b, e1, e2, h3, h4⟩ := h.sound k h0 hk
    have e1' : (l.getD k default).fr = a := e1
    have e2' : (l.getD k default).by' = b := e2
    have hb := step_lt h4
    exact ⟨by rw [e1]; omega, .inl (by rw [e1']; omega), fun _ => ⟨by rw [e2']; omega, by rw [e2']; omega⟩⟩
  · obtain rfl : k = 0 := by omega
    have hh := h.head
    have e1 : (l.getD 0 default).fr = -1 := by show (at' l 0).fr = -1; rw [hh]
    exact ⟨by rw [hh]; simp, .inr e1, fun hc => by rw [e1] at hc; exact absurd hc (by decide)⟩
theorem level_zero (h : Reach p l) : level l 0 = 0 := by
  unfold level
  rw [backs_stop (by show ¬ (at' l 0).fr ≥ 0; rw [h.head]; simp)]
  rfl
theorem level_succ (h : Reach p l) {k : Nat} (h0 : 0 < k) (hk : k < l.length) : ∃ a b : Nat, (at' l k).fr = a ∧ a < k ∧ step p (at' l a).s b = some (at' l k).s ∧ level l k = level l a + 1 ∧ backs l k = (b : Int) :: backs l a := by
  obtain ⟨a, b, e1, e2, h3, h4⟩ := h.sound k h0 hk
  obtain ⟨_, hb⟩ := backs_go h.lnk hk e1
  have e2' : (l.getD k default).by' = b := e2
  rw [e2'] at hb
  exact ⟨a, b, e1, h3, h4, by unfold level; rw [hb]; rfl, hb⟩
theorem level_mono (h : Reach p l) : ∀ m n, n ≤ m → m < l.length → level l n ≤ level l m := by
  intro m
  induction m using Nat.strongRecOn with
  | _ m ih =>
    intro n hnm hm
    by_cases h0 : 0 < n
    · obtain ⟨a, _, e1, h1, _, h2, _⟩ := h.level_succ h0 (by omega)
      obtain ⟨a', _, e1', h1', _, h2', _⟩ := h.level_succ (by omega : 0 < m) hm
      have := h.mono n m hnm hm
      rw [e1, e1'] at this
      have := ih a' h1' a (by omega) (by omega)
      omega
    · obtain rfl : n = 0 := by omega
      rw [h.level_zero]; omega
theorem level_closed (h : Reach p l) {a : Nat} (ha : a < l.length) {b : Nat} {s' : St} (hs : step p (at' l a).s b = some s') : ∃ n, n < l.length ∧ (at' l n).s = s' ∧ level l n ≤ level l a + 1 := by
  obtain ⟨n, hn, e, hf⟩ := h.closed a b ha s' hs
  refine ⟨n, hn, e, ?_⟩
  by_cases h0 : 0 < n
  · obtain ⟨a', _, e1, h1, _, h2, _⟩ := h.level_succ h0 hn
    rw [e1] at hf
    have := h.level_mono a a' (by omega) ha
    omega
  · obtain rfl : n = 0 := by omega
    rw [h.level_zero]; omega
/-- Whatever so many steps come to is there, at no higher a level. -/
theorem of_path (h : Reach p l) {n : Nat} {s : St} (hp : Path p n s) : ∃ k, k < l.length ∧ (at' l k).s = s ∧ level l k ≤ n := by
  induction hp with
  | first => exact ⟨0, h.pos, by rw [h.head], by rw [h.level_zero]; omega⟩
  | step _ hs ih =>
    obtain ⟨k, hk, rfl, hl⟩ := ih
    obtain ⟨n, hn, e, hl'⟩ := h.level_closed hk hs
    exact ⟨n, hn, e, by omega⟩
theorem path (h : Reach p l) : ∀ k, k < l.length → Path p (level l k) (at' l k).s := by
  intro k
  induction k using Nat.strongRecOn with
  | _ k ih =>
    intro hk
    by_cases h0 : 0 < k
    · obtain ⟨a, b, e1, h1, h2, h3, _⟩ := h.level_succ h0 hk
      rw [h3]
      exact .step (ih a h1 (by omega)) h2
    · obtain rfl : k = 0 := by omega
      rw [h.level_zero, h.head]
      exact .first
theorem mem_iff (h : Reach p l) (s : St) : s ∈ l.map (·.s) ↔ ∃ n, Path p n s := by
  constructor
  · intro hs
    obtain ⟨n, hn, rfl⟩ := mem_at hs
    exact ⟨_, h.path n hn⟩
  · rintro ⟨n, hp⟩
    obtain ⟨k, hk, rfl, _⟩ := h.of_path hp
    exact at_mem hk
end Reach
end Go.Proofs.Ytmpgjnindbklaaa.Ex
