import Derived.Test.YtmpgjnindbklaaaEReach
import Derived.Test.YtmpgjnindbklaaaERFollow
/-! The document's rounds over all states, plainly: no limit within a round. -/
namespace Go.Proofs.Ytmpgjnindbklaaa.Ex
open Go.Proofs.Ytmpgjnindbklaaa

def oneR (p : Lt) (i : Nat) (l : List Met) (k : Nat) : List Met :=
  match step p (at' l i).s k with
  | none => l
  | some s => if s ∈ l.map (·.s) then l else l ++ [⟨s, i, k⟩]
def fromR (p : Lt) (i : Nat) (l : List Met) (k : Nat) : Nat → List Met
  | 0 => l
  | n + 1 => fromR p i (oneR p i l k) (k + 1) n
def goesR (p : Lt) : Nat → Nat → List Met → Option (List Met)
  | 0, _, l => some l
  | n + 1, i, l => if i < l.length then
      if most < (fromR p i l 0 p.threads.length).length then none else goesR p n (i + 1) (fromR p i l 0 p.threads.length)
    else some l
theorem oneR_grows (p : Lt) (i : Nat) (l : List Met) (k : Nat) : l.length ≤ (oneR p i l k).length := by
  unfold oneR
  split
  · exact Nat.le_refl _
  · split
    · exact Nat.le_refl _
    · simp
theorem fromR_grows (p : Lt) (i : Nat) : ∀ (n k : Nat) (l : List Met), l.length ≤ (fromR p i l k n).length
  | 0, _, _ => Nat.le_refl _
  | n + 1, k, l => Nat.le_trans (oneR_grows p i l k) (fromR_grows p i n (k + 1) _)
theorem from_fromR (p : Lt) (i : Nat) : ∀ (n k : Nat) (l : List Met), l.length ≤ most → from' p i l k n = if most < (fromR p i l k n).length then none else some (fromR p i l k n)
  | 0, _, l, hl => by
    show some l = _
    rw [if_neg (by show ¬ most < l.length; omega)]
    rfl
  | n + 1, k, l, hl => by
    unfold from' fromR
    have ho : one p i l k = if most < (oneR p i l k).length then none else some (oneR p i l k) := by
      unfold one oneR
      cases hs : step p (at' l i).s k with
      | none =>
        simp only
        rw [if_neg (by omega)]
      | some s =>
        simp only
        by_cases hm : s ∈ l.map (·.s)
        · simp only [if_pos hm]
          rw [if_neg (by omega)]
        · simp only [if_neg hm]
          by_cases hl2 : l.length = most
          · rw [if_pos hl2, if_pos (by simp; omega)]
          · rw [if_neg hl2, if_neg (by simp; omega)]
    rw [ho]
    by_cases h1 : most < (oneR p i l k).length
    · rw [if_pos h1]
      have := fromR_grows p i n (k + 1) (oneR p i l k)
      rw [if_pos (by omega)]
    · rw [if_neg h1]
      exact from_fromR p i n (k + 1) _ (by omega)
theorem goesR_eq (p : Lt) : ∀ (n i : Nat) (l : List Met), l.length ≤ most → goesR p n i l = goesOn p n i l
  | 0, _, _, _ => rfl
  | n + 1, i, l, hl => by
    unfold goesR goesOn
    by_cases hi : i < l.length
    · rw [if_pos hi, if_pos hi, from_fromR p i _ 0 l hl]
      by_cases h1 : most < (fromR p i l 0 p.threads.length).length
      · rw [if_pos h1, if_pos h1]
      · rw [if_neg h1, if_neg h1]
        exact goesR_eq p n (i + 1) _ (by omega)
    · rw [if_neg hi, if_neg hi]
/-- A bad state: its round does nothing. -/
theorem fromR_bad {p : Lt} {i : Nat} {l : List Met} (hb : (at' l i).s.bad = true) : ∀ (n k : Nat), fromR p i l k n = l
  | 0, _ => rfl
  | n + 1, k => by
    unfold fromR
    have : oneR p i l k = l := by
      unfold oneR
      have hs : step p (at' l i).s k = none := by unfold step; rw [if_pos hb]
      rw [hs]
    rw [this]
    exact fromR_bad hb n (k + 1)

/-- Cells that the program doesn't use stay 0. -/
def unused (p : Lt) (i : Nat) : Prop := (p.words.length ≤ i ∧ i < 8) ∨ (8 + p.threads.length ≤ i ∧ i < 12) ∨ 12 + 4 * p.threads.length ≤ i
def Zero (p : Lt) (s : St) : Prop := ∀ i, unused p i → g s.c i = 0
theorem zero_first {p : Lt} (h8 : p.words.length ≤ 8) : Zero p (first p) := by
  intro i hi
  have h : p.words.length ≤ i := by rcases hi with hi | hi | hi <;> omega
  unfold first g
  rw [List.getD_eq_getElem?_getD, List.getElem?_append_right h, List.getElem?_replicate]
  split <;> rfl
theorem shared_off {p : Lt} {c : List Int} {k lines : Nat} {x : Ln} (h8 : p.words.length ≤ 8) (hT : p.threads.length ≤ 4) (hk : k < p.threads.length) (hok : lineOK p.words.length lines x = true) {i : Nat} (hi : unused p i) : g (shared c (12 + 4 * k) x) i = g c i := by
  obtain ⟨op, a, b, y⟩ := x
  have hw : ∀ (d : List Int) (t : Nat) (v : Int), t < p.words.length → g (d.set t v) i = g d i := fun d t v ht => gset_ne v (by rcases hi with hi | hi | hi <;> omega)
  have hr : ∀ (d : List Int) (t : Nat) (v : Int), t < 4 → g (d.set (12 + 4 * k + t) v) i = g d i := fun d t v ht => gset_ne v (by rcases hi with hi | hi | hi <;> omega)
  unfold lineOK at hok
  unfold shared
  simp only [reg, word, place] at hok
  dsimp only at hok ⊢
  by_cases h1 : op = 1
  · simp [h1] at hok ⊢
    rw [hr _ _ _ (by omega)]
  by_cases h2 : op = 2
  · simp [h2] at hok ⊢
    rw [hw _ _ _ (by omega)]
  by_cases h3 : op = 3
  · simp [h3] at hok ⊢
    rw [hw _ _ _ (by omega), hr _ _ _ (by omega)]
  by_cases h4 : op = 4
  · simp [h4] at hok ⊢
    rw [hw _ _ _ (by omega), hr _ _ _ (by omega)]
  by_cases h5 : op = 5
  · simp [h5] at hok ⊢
    split
    · rw [hr _ _ _ (by omega), hw _ _ _ (by omega)]
    · rw [hr _ _ _ (by omega)]
  · simp [h1, h2, h3, h4, h5]
theorem own_off {p : Lt} {c : List Int} {k lines : Nat} {x : Ln} {z : Int} (hT : p.threads.length ≤ 4) (hk : k < p.threads.length) (hok : lineOK p.words.length lines x = true) {i : Nat} (hi : unused p i) : g (own c (12 + 4 * k) x z).1 i = g c i := by
  obtain ⟨op, a, b, y⟩ := x
  have hr : ∀ (d : List Int) (t : Nat) (v : Int), t < 4 → g (d.set (12 + 4 * k + t) v) i = g d i := fun d t v ht => gset_ne v (by rcases hi with hi | hi | hi <;> omega)
  unfold lineOK at hok
  unfold own
  simp only [reg, word, place] at hok
  dsimp only at hok ⊢
  by_cases h6 : op = 6
  · simp [h6] at hok ⊢
    rw [hr _ _ _ (by omega)]
  by_cases h7 : op = 7
  · simp [h7] at hok ⊢
    rw [hr _ _ _ (by omega)]
  by_cases h8 : op = 8
  · simp [h8]
  by_cases h9 : op = 9
  · simp [h9]
  by_cases h10 : op = 10
  · simp [h10]
  · simp [h6, h7, h8, h9, h10]
theorem zero_step {p : Lt} {s s' : St} {k : Nat} (hp : check p = true) (hw : Wf p s) (hz : Zero p s) (h : step p s k = some s') : Zero p s' := by
  obtain ⟨⟨_, h8, _, hT⟩, hall⟩ := check_facts hp
  have hk := step_lt h
  obtain ⟨x, _, hl, rfl⟩ := step_some h
  obtain ⟨_, hlt, hx⟩ := lineAt_some hl
  have h0 := (hw.at' k hk).1
  have hok : lineOK p.words.length (p.threads.getD k []).length x = true := by rw [hx]; exact (hall k hk).2 _ (by omega)
  intro i hi
  have hne : 8 + k ≠ i := by rcases hi with hi | hi | hi <;> omega
  show g (List.set _ (8 + k) _) i = 0
  rw [gset_ne _ hne, own_off hT hk hok hi, shared_off h8 hT hk hok hi]
  exact hz i hi
theorem path_zero {p : Lt} {n : Nat} {s : St} (hp : check p = true) (h : Path p n s) : Wf p s ∧ Zero p s := by
  obtain ⟨⟨_, h8, _, hT⟩, _⟩ := check_facts hp
  induction h with
  | first => exact ⟨first_wf hp, zero_first h8⟩
  | step _ hs ih => exact ⟨step_wf hp ih.1 hs, zero_step hp ih.1 ih.2 hs⟩
/-- One flat list: one state. -/
theorem flat_one {p : Lt} {s s' : St} (h8 : p.words.length ≤ 8) (hT : p.threads.length ≤ 4) (hw : Wf p s) (hz : Zero p s) (hw' : Wf p s') (hz' : Zero p s') (h : flat p s = flat p s') : s = s' := by
  have hb : s.bad = s'.bad := by
    have h1 := flat_bad hw.len h8 hT
    have h2 := flat_bad hw'.len h8 hT
    rw [h, h2] at h1
    cases hs : s.bad <;> cases hs' : s'.bad <;> simp [hs, hs'] at h1 ⊢
  have hg : ∀ i, i < p.words.length + 5 * p.threads.length → g s.c (psi p.words.length i) = g s'.c (psi p.words.length i) := fun i hi => by
    rw [← flat_g hw.len h8 hT hi, ← flat_g hw'.len h8 hT hi, h]
  have hc : s.c = s'.c := by
    apply List.ext_getElem (by rw [hw.len, hw'.len])
    intro i h1 h2
    have h28 : i < 28 := by rw [hw.len] at h1; exact h1
    have key : g s.c i = g s'.c i := by
      by_cases hu : unused p i
      · rw [hz i hu, hz' i hu]
      · have hcase : i < p.words.length ∨ (8 ≤ i ∧ i < 8 + p.threads.length) ∨ (12 ≤ i ∧ i < 12 + 4 * p.threads.length) := by
          unfold unused at hu
          omega
        rcases hcase with hi | ⟨hi, hi'⟩ | ⟨hi, hi'⟩
        · have := hg i (by omega)
          rwa [psi_word hi] at this
        · have := hg (p.words.length + 5 * (i - 8)) (by omega)
          rw [psi_at] at this
          rwa [show 8 + (i - 8) = i by omega] at this
        · have := hg (p.words.length + 5 * ((i - 12) / 4) + 1 + (i - 12) % 4) (by omega)
          rw [psi_reg _ _ _ (by omega)] at this
          rwa [show 12 + 4 * ((i - 12) / 4) + (i - 12) % 4 = i by omega] at this
    simpa [g, h1, h2] using key
  cases s; cases s'
  simp_all
/-- The rounds' states: come to by steps. -/
def Come (p : Lt) (l : List Met) : Prop := ∀ m ∈ l, ∃ n, Path p n m.s
theorem come_first (p : Lt) : Come p [⟨first p, -1, -1⟩] := fun m hm => by
  simp only [List.mem_singleton] at hm
  subst hm
  exact ⟨0, .first⟩
theorem come_at {p : Lt} {l : List Met} (h : Come p l) {i : Nat} (hi : i < l.length) : ∃ n, Path p n (at' l i).s := by
  have e : at' l i = l[i] := by simp [at', List.getD_eq_getElem?_getD, hi]
  rw [e]
  exact h _ (List.getElem_mem hi)
theorem come_one {p : Lt} {l : List Met} (h : Come p l) {i k : Nat} (hi : i < l.length) : Come p (oneR p i l k) := by
  unfold oneR
  split
  · exact h
  · rename_i s hs
    split
    · exact h
    · intro m hm
      rcases List.mem_append.1 hm with h1 | h1
      · exact h m h1
      · simp only [List.mem_singleton] at h1
        subst h1
        obtain ⟨n, hn⟩ := come_at h hi
        exact ⟨n + 1, .step hn hs⟩
/-- Is a state's flat list there? The state is. -/
theorem flat_mem {p : Lt} (hp : check p = true) {l : List Met} (h : Come p l) {s : St} {n : Nat} (hs : Path p n s) : flat p s ∈ l.map (fun m => flat p m.s) ↔ s ∈ l.map (·.s) := by
  obtain ⟨⟨_, h8, _, hT⟩, _⟩ := check_facts hp
  obtain ⟨hw, hz⟩ := path_zero hp hs
  constructor
  · intro hm
    obtain ⟨m, hm1, hm2⟩ := List.mem_map.1 hm
    obtain ⟨n', hn'⟩ := h m hm1
    obtain ⟨hw', hz'⟩ := path_zero hp hn'
    have := flat_one h8 hT hw' hz' hw hz hm2
    exact List.mem_map.2 ⟨m, hm1, this⟩
  · intro hm
    obtain ⟨m, hm1, hm2⟩ := List.mem_map.1 hm
    exact List.mem_map.2 ⟨m, hm1, by rw [hm2]⟩
end Go.Proofs.Ytmpgjnindbklaaa.Ex
