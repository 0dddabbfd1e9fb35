import Derived.Test.YtmpgjnindbklaaaEReach
/-! The threads the other way round, plainly: as many states and ends, bad or not, in as many turns. -/
namespace Go.Proofs.Ytmpgjnindbklaaa.Ex
open Go.Proofs.Ytmpgjnindbklaaa

/-- Where a cell of a state lies when the threads (so many) lie the other way round. -/
def pi (T i : Nat) : Nat :=
  if i < 8 then i
  else if i < 12 then (if i - 8 < T then 8 + (T - 1 - (i - 8)) else i)
  else if (i - 12) / 4 < T then 12 + 4 * (T - 1 - (i - 12) / 4) + (i - 12) % 4 else i
theorem pi_word (T : Nat) {i : Nat} (h : i < 8) : pi T i = i := by unfold pi; rw [if_pos h]
theorem pi_at {T k : Nat} (hk : k < T) (hT : T ≤ 4) : pi T (8 + k) = 8 + (T - 1 - k) := by
  unfold pi
  rw [if_neg (by omega), if_pos (by omega), if_pos (by omega)]
  omega
theorem pi_reg {T k a : Nat} (hk : k < T) (ha : a < 4) : pi T (12 + 4 * k + a) = 12 + 4 * (T - 1 - k) + a := by
  unfold pi
  have h1 : (12 + 4 * k + a - 12) / 4 = k := by omega
  have h2 : (12 + 4 * k + a - 12) % 4 = a := by omega
  rw [if_neg (by omega), if_neg (by omega), h1, h2, if_pos hk]
theorem pi_lt {T i : Nat} (hT : T ≤ 4) (hi : i < 28) : pi T i < 28 := by
  unfold pi
  split
  · omega
  · split
    · split <;> omega
    · split <;> omega
theorem pi_pi {T i : Nat} (hT : T ≤ 4) : pi T (pi T i) = i := by
  by_cases h8 : i < 8
  · rw [pi_word T h8, pi_word T h8]
  · by_cases h12 : i < 12
    · by_cases hk : i - 8 < T
      · have e : i = 8 + (i - 8) := by omega
        rw [e, pi_at hk hT, pi_at (by omega) hT]
        omega
      · have e : pi T i = i := by unfold pi; rw [if_neg h8, if_pos h12, if_neg hk]
        rw [e, e]
    · by_cases hk : (i - 12) / 4 < T
      · have e : i = 12 + 4 * ((i - 12) / 4) + (i - 12) % 4 := by omega
        rw [e, pi_reg hk (by omega), pi_reg (by omega) (by omega)]
        omega
      · have e : pi T i = i := by unfold pi; rw [if_neg h8, if_neg h12, if_neg hk]
        rw [e, e]
/-- A state's cells, the threads the other way round. -/
def tw (T : Nat) (c : List Int) : List Int := (List.range 28).map fun i => g c (pi T i)
theorem tw_len (T : Nat) (c : List Int) : (tw T c).length = 28 := by simp [tw]
theorem tw_get {T : Nat} {c : List Int} {i : Nat} (hi : i < 28) : g (tw T c) i = g c (pi T i) := by
  simp [tw, g, hi]
theorem tw_back {T : Nat} {c : List Int} (hT : T ≤ 4) {i : Nat} (hi : i < 28) : g (tw T c) (pi T i) = g c i := by
  rw [tw_get (pi_lt hT hi), pi_pi hT]
theorem ext_tw {a b : List Int} (ha : a.length = 28) (hb : b.length = 28) (h : ∀ i, i < 28 → g a i = g b i) : a = b := by
  apply List.ext_getElem (by omega)
  intro i h1 h2
  have := h i (by omega)
  simpa [g, h1, h2] using this
theorem tw_set_at {c : List Int} {i : Nat} (v : Int) (hi : i < c.length) : g (c.set i v) i = v := by simp [g, hi]
theorem tw_set_off {c : List Int} {i j : Nat} (v : Int) (h : i ≠ j) : g (c.set i v) j = g c j := by simp [g, List.getD_eq_getElem?_getD, List.getElem?_set_ne h]
theorem tw_tw {T : Nat} {c : List Int} (hT : T ≤ 4) (hc : c.length = 28) : tw T (tw T c) = c :=
  ext_tw (tw_len _ _) hc fun i hi => by rw [tw_get hi, tw_back hT hi]
theorem tw_set {T : Nat} {c : List Int} (hT : T ≤ 4) (hc : c.length = 28) {i : Nat} (hi : i < 28) (v : Int) : tw T (c.set i v) = (tw T c).set (pi T i) v := by
  refine ext_tw (tw_len _ _) (by simp [tw_len]) fun j hj => ?_
  rw [tw_get hj]
  by_cases h : pi T j = i
  · have e : j = pi T i := by rw [← h, pi_pi hT]
    rw [h, tw_set_at v (by omega), e, tw_set_at v (by rw [tw_len]; exact pi_lt hT hi)]
  · have e : pi T i ≠ j := fun e => h (by rw [← e, pi_pi hT])
    rw [tw_set_off v (fun e => h e.symm), tw_set_off v e, tw_get hj]
theorem tw_first {p : Lt} (hT : p.threads.length ≤ 4) (h8 : p.words.length ≤ 8) : tw p.threads.length (first p).c = (first p).c := by
  have hl : (first p).c.length = 28 := by simp [first]; omega
  have hz : ∀ i, 8 ≤ i → g (first p).c i = 0 := fun i hi => by
    unfold first g
    rw [List.getD_eq_getElem?_getD, List.getElem?_append_right (by omega)]
    by_cases h : i - p.words.length < 28 - p.words.length
    · rw [List.getElem?_replicate, if_pos h]; rfl
    · rw [List.getElem?_replicate, if_neg h]; rfl
  refine ext_tw (tw_len _ _) hl fun i hi => ?_
  rw [tw_get hi]
  by_cases h : i < 8
  · rw [pi_word _ h]
  · have h2 : 8 ≤ pi p.threads.length i := by
      apply Classical.byContradiction
      intro hh
      have := pi_word p.threads.length (i := pi p.threads.length i) (by omega)
      rw [pi_pi hT] at this
      omega
    rw [hz _ h2, hz _ (by omega)]

/-- The program, its threads the other way round. -/
def rv (p : Lt) : Lt := ⟨p.words, p.threads.reverse⟩
def tws (T : Nat) (s : St) : St := ⟨tw T s.c, s.bad⟩
theorem rv_rv (p : Lt) : rv (rv p) = p := by simp [rv]
theorem rv_threads (p : Lt) : (rv p).threads.length = p.threads.length := by simp [rv]
theorem rv_check (p : Lt) : check (rv p) = check p := by
  unfold check rv
  simp only [List.length_reverse, List.all_reverse]
theorem rv_first (p : Lt) (hT : p.threads.length ≤ 4) (h8 : p.words.length ≤ 8) : first (rv p) = tws p.threads.length (first p) := by
  unfold tws
  rw [tw_first hT h8]
  rfl
theorem rv_at {p : Lt} {k : Nat} (hk : k < p.threads.length) : (rv p).threads[p.threads.length - 1 - k]? = p.threads[k]? := by
  unfold rv
  rw [List.getElem?_reverse (by omega)]
  congr 1
  omega
theorem rv_line {p : Lt} {c : List Int} {k : Nat} (hk : k < p.threads.length) (hT : p.threads.length ≤ 4) : lineAt (rv p) (tw p.threads.length c) (p.threads.length - 1 - k) = lineAt p c k := by
  unfold lineAt
  rw [rv_at hk]
  have e : g (tw p.threads.length c) (8 + (p.threads.length - 1 - k)) = g c (8 + k) := by rw [← pi_at hk hT, tw_back hT (by omega)]
  rw [e]
theorem rv_shared {T n lines k : Nat} {c : List Int} {l : Ln} (hT : T ≤ 4) (hk : k < T) (hc : c.length = 28) (hn : n ≤ 8) (hok : lineOK n lines l = true) : shared (tw T c) (12 + 4 * (T - 1 - k)) l = tw T (shared c (12 + 4 * k) l) ∧ (shared c (12 + 4 * k) l).length = 28 := by
  obtain ⟨op, a, b, x⟩ := l
  have hr : ∀ y, y < 4 → g (tw T c) (12 + 4 * (T - 1 - k) + y) = g c (12 + 4 * k + y) := fun y hy => by rw [← pi_reg hk hy, tw_back hT (by omega)]
  have hw : ∀ y, y < 8 → g (tw T c) y = g c y := fun y hy => by rw [tw_get (by omega), pi_word T hy]
  have sr : ∀ (d : List Int) y v, d.length = 28 → y < 4 → tw T (d.set (12 + 4 * k + y) v) = (tw T d).set (12 + 4 * (T - 1 - k) + y) v := fun d y v hd hy => by rw [tw_set hT hd (by omega), pi_reg hk hy]
  have sw : ∀ (d : List Int) y v, d.length = 28 → y < 8 → tw T (d.set y v) = (tw T d).set y v := fun d y v hd hy => by rw [tw_set hT hd (by omega), pi_word T hy]
  unfold lineOK at hok
  unfold shared
  simp only [reg, word, place] at hok
  dsimp only at hok ⊢
  by_cases h1 : op = 1
  · simp [h1] at hok ⊢
    rw [hw _ (by omega), sr _ _ _ hc (by omega)]
    exact ⟨rfl, hc⟩
  by_cases h2 : op = 2
  · simp [h2] at hok ⊢
    rw [hr _ (by omega), sw _ _ _ hc (by omega)]
    exact ⟨rfl, hc⟩
  by_cases h3 : op = 3
  · simp [h3] at hok ⊢
    rw [hw _ (by omega), sw _ _ _ (by simpa using hc) (by omega), sr _ _ _ hc (by omega)]
    exact ⟨rfl, hc⟩
  by_cases h4 : op = 4
  · simp [h4] at hok ⊢
    rw [hw _ (by omega), hr _ (by omega), sw _ _ _ (by simpa using hc) (by omega), sr _ _ _ hc (by omega)]
    exact ⟨rfl, hc⟩
  by_cases h5 : op = 5
  · simp [h5] at hok ⊢
    rw [hw _ (by omega), hr _ (by omega), hr _ (by omega)]
    split
    · rw [sr _ _ _ (by simpa using hc) (by omega), sw _ _ _ hc (by omega)]
      exact ⟨rfl, by simpa using hc⟩
    · rw [sr _ _ _ hc (by omega)]
      exact ⟨rfl, by simpa using hc⟩
  · simp [h1, h2, h3, h4, h5, hc]
theorem rv_own {T n lines k : Nat} {c : List Int} {l : Ln} {x : Int} (hT : T ≤ 4) (hk : k < T) (hc : c.length = 28) (hok : lineOK n lines l = true) :
    own (tw T c) (12 + 4 * (T - 1 - k)) l x = (tw T (own c (12 + 4 * k) l x).1, (own c (12 + 4 * k) l x).2) ∧ (own c (12 + 4 * k) l x).1.length = 28 := by
  obtain ⟨op, a, b, y⟩ := l
  have hr : ∀ y, y < 4 → g (tw T c) (12 + 4 * (T - 1 - k) + y) = g c (12 + 4 * k + y) := fun y hy => by rw [← pi_reg hk hy, tw_back hT (by omega)]
  have sr : ∀ (d : List Int) y v, d.length = 28 → y < 4 → tw T (d.set (12 + 4 * k + y) v) = (tw T d).set (12 + 4 * (T - 1 - k) + y) v := fun d y v hd hy => by rw [tw_set hT hd (by omega), pi_reg hk hy]
  unfold lineOK at hok
  unfold own
  simp only [reg, word, place] at hok
  dsimp only at hok ⊢
  by_cases h6 : op = 6
  · simp [h6] at hok ⊢
    rw [sr _ _ _ hc (by omega)]
    exact ⟨rfl, hc⟩
  by_cases h7 : op = 7
  · simp [h7] at hok ⊢
    rw [hr _ (by omega), sr _ _ _ hc (by omega)]
    exact ⟨rfl, hc⟩
  by_cases h8 : op = 8
  · simp [h8] at hok ⊢
    rw [hr _ (by omega)]
    exact ⟨rfl, hc⟩
  by_cases h9 : op = 9
  · simp [h9, hc]
  by_cases h10 : op = 10
  · simp [h10] at hok ⊢
    rw [hr _ (by omega)]
    exact ⟨Iff.rfl, hc⟩
  · simp [h6, h7, h8, h9, h10, hc]
theorem rv_step {p : Lt} {s : St} {k : Nat} (hp : check p = true) (hw : Wf p s) (hk : k < p.threads.length) : step (rv p) (tws p.threads.length s) (p.threads.length - 1 - k) = (step p s k).map (tws p.threads.length) := by
  obtain ⟨⟨_, h8, _, hT⟩, hall⟩ := check_facts hp
  unfold step
  by_cases hb : s.bad = true
  · have hb' : (tws p.threads.length s).bad = true := hb
    rw [if_pos hb, if_pos hb']
    rfl
  · have hb' : ¬ (tws p.threads.length s).bad = true := hb
    rw [if_neg hb, if_neg hb']
    show (match lineAt (rv p) (tw p.threads.length s.c) (p.threads.length - 1 - k) with | none => none | some l => _) = _
    rw [rv_line hk hT]
    cases hl : lineAt p s.c k with
    | none => rfl
    | some l =>
      obtain ⟨_, hlt, hx⟩ := lineAt_some hl
      have h0 := (hw.at' k hk).1
      have hok : lineOK p.words.length (p.threads.getD k []).length l = true := by rw [hx]; exact (hall k hk).2 _ (by omega)
      have hs := rv_shared hT hk hw.len h8 hok
      have ho := rv_own (x := g s.c (8 + k)) hT hk hs.2 hok
      have hat : g (tw p.threads.length s.c) (8 + (p.threads.length - 1 - k)) = g s.c (8 + k) := by rw [← pi_at hk hT, tw_back hT (by omega)]
      show some (St.mk _ _) = some (St.mk _ _)
      simp only [tws]
      rw [hat, hs.1, ho.1]
      simp only
      rw [tw_set hT ho.2 (by omega), pi_at hk hT]
theorem path_wf {p : Lt} {n : Nat} {s : St} (hp : check p = true) (h : Path p n s) : Wf p s := by
  induction h with
  | first => exact first_wf hp
  | step _ hs ih => exact step_wf hp ih hs
theorem rv_path {p : Lt} {n : Nat} {s : St} (hp : check p = true) (h : Path p n s) : Path (rv p) n (tws p.threads.length s) := by
  obtain ⟨⟨_, h8, _, hT⟩, _⟩ := check_facts hp
  induction h with
  | first => rw [← rv_first p hT h8]; exact .first
  | step h0 hs ih =>
    have := rv_step hp (path_wf hp h0) (step_lt hs)
    rw [hs] at this
    exact .step ih this
theorem tws_tws {p : Lt} {n : Nat} {s : St} (hp : check p = true) (h : Path p n s) : tws p.threads.length (tws p.threads.length s) = s := by
  obtain ⟨⟨_, _, _, hT⟩, _⟩ := check_facts hp
  unfold tws
  rw [tw_tw hT (path_wf hp h).len]
theorem rv_over {p : Lt} {s : St} (hT : p.threads.length ≤ 4) : over (rv p) (tws p.threads.length s) = over p s := by
  unfold over
  rw [rv_threads]
  show (_ && !s.bad) = _
  congr 1
  rw [Bool.eq_iff_iff, List.all_eq_true, List.all_eq_true]
  have key : ∀ k, k < p.threads.length → (decide ((((rv p).threads.getD (p.threads.length - 1 - k) []).length : Int) ≤ g (tws p.threads.length s).c (8 + (p.threads.length - 1 - k)))) = decide (((p.threads.getD k []).length : Int) ≤ g s.c (8 + k)) := fun k hk => by
    have e1 : (rv p).threads.getD (p.threads.length - 1 - k) [] = p.threads.getD k [] := by rw [List.getD_eq_getElem?_getD, List.getD_eq_getElem?_getD, rv_at hk]
    have e2 : g (tws p.threads.length s).c (8 + (p.threads.length - 1 - k)) = g s.c (8 + k) := by
      show g (tw p.threads.length s.c) _ = _
      rw [← pi_at hk hT, tw_back hT (by omega)]
    rw [e1, e2]
  constructor
  · intro h k hk
    have hk' := List.mem_range.1 hk
    have := h (p.threads.length - 1 - k) (List.mem_range.2 (by omega))
    rw [key k hk'] at this
    exact this
  · intro h k hk
    have hk' := List.mem_range.1 hk
    have h1 := key (p.threads.length - 1 - k) (by omega)
    rw [show p.threads.length - 1 - (p.threads.length - 1 - k) = k by omega] at h1
    rw [h1]
    exact h _ (List.mem_range.2 (by omega))

/-- Too many: more states than may be can be come to. -/
theorem Inv.paths {p : Lt} {l : List Met} {i k : Nat} (h : Inv p l i k) : ∀ m, m < l.length → ∃ n, Path p n (at' l m).s := by
  intro m
  induction m using Nat.strongRecOn with
  | _ m ih =>
    intro hm
    by_cases h0 : 0 < m
    · obtain ⟨a, b, _, _, h3, h4⟩ := h.sound m h0 hm
      obtain ⟨n, hn⟩ := ih a h3 (by omega)
      exact ⟨n + 1, .step hn h4⟩
    · obtain rfl : m = 0 := by omega
      rw [h.head]
      exact ⟨0, .first⟩
def Many (p : Lt) : Prop := ∃ L : List St, L.Nodup ∧ most < L.length ∧ ∀ s ∈ L, ∃ n, Path p n s
theorem one_many' {p : Lt} {l : List Met} {i k : Nat} (h : Inv p l i k) (hi : i < l.length) (ho : Ex.one p i l k = none) : Many p := by
  unfold Ex.one at ho
  cases hs : step p (l.getD i default).s k with
  | none => rw [hs] at ho; cases ho
  | some s =>
    rw [hs] at ho
    by_cases hm : s ∈ l.map (·.s)
    · simp only [if_pos hm] at ho; cases ho
    · simp only [if_neg hm] at ho
      by_cases hl : l.length = most
      · refine ⟨l.map (·.s) ++ [s], ?_, by simp; omega, fun x hx => ?_⟩
        · rw [List.nodup_append]
          refine ⟨h.nodup, by simp, fun a ha b hb => ?_⟩
          simp only [List.mem_singleton] at hb
          subst hb
          intro e
          subst e
          exact hm ha
        · rcases List.mem_append.1 hx with hx | hx
          · obtain ⟨m, hm', rfl⟩ := mem_at hx
            exact h.paths m hm'
          · simp only [List.mem_singleton] at hx
            subst hx
            obtain ⟨n, hn⟩ := h.paths i hi
            exact ⟨n + 1, .step hn hs⟩
      · rw [if_neg hl] at ho; cases ho
theorem from_many {p : Lt} {i : Nat} : ∀ (n k : Nat) {l : List Met}, Inv p l i k → i < l.length → l.length ≤ most → Ex.from' p i l k n = none → Many p
  | 0, _, l, _, _, _, ho => by cases ho
  | n + 1, k, l, h, hi, hl, ho => by
    unfold Ex.from' at ho
    cases h1 : Ex.one p i l k with
    | none => exact one_many' h hi h1
    | some l1 =>
      rw [h1] at ho
      obtain ⟨g1, g2⟩ := one_grows h1 hl
      exact from_many n (k + 1) (h.one hi h1) (by omega) g2 ho
theorem goesOn_many {p : Lt} : ∀ (n i : Nat) {l : List Met}, Inv p l i 0 → l.length ≤ most → Ex.goesOn p n i l = none → Many p
  | 0, _, l, _, _, ho => by cases ho
  | n + 1, i, l, h, hl, ho => by
    unfold Ex.goesOn at ho
    by_cases hi : i < l.length
    · rw [if_pos hi] at ho
      cases h1 : Ex.from' p i l 0 p.threads.length with
      | none => exact from_many _ 0 h hi hl h1
      | some l1 =>
        rw [h1] at ho
        obtain ⟨h2, h3, h4⟩ := Inv.from' _ 0 h hi hl h1
        rw [Nat.zero_add] at h2
        exact goesOn_many n (i + 1) h2.next h4 ho
    · rw [if_neg hi] at ho; cases ho
theorem goes_many {p : Lt} (h : goes p = none) : Many p := goesOn_many _ _ (Inv.first p) (by simp [most]) h

theorem many_rv {p : Lt} (hp : check p = true) (h : Many p) : Many (rv p) := by
  obtain ⟨L, h1, h2, h3⟩ := h
  refine ⟨L.map (tws p.threads.length), ?_, by simpa using h2, fun s hs => ?_⟩
  · refine List.Pairwise.map _ (R := fun a b => a ∈ L ∧ b ∈ L ∧ a ≠ b) (fun a b hab e => ?_) ?_
    · obtain ⟨ha, hb, hne⟩ := hab
      obtain ⟨n, hn⟩ := h3 a ha
      obtain ⟨m, hm⟩ := h3 b hb
      exact hne (by rw [← tws_tws hp hn, e, tws_tws hp hm])
    · exact List.Pairwise.imp_of_mem (fun {a b} ha hb hne => ⟨ha, hb, hne⟩) h1
  · obtain ⟨x, hx, rfl⟩ := List.mem_map.1 hs
    obtain ⟨n, hn⟩ := h3 x hx
    exact ⟨n, rv_path hp hn⟩
theorem many_not {p : Lt} {l : List Met} (h : Reach p l) (hm : Many p) : False := by
  obtain ⟨L, h1, h2, h3⟩ := hm
  have := h1.length_le_of_subset (l₂ := l.map (·.s)) (fun s hs => (h.mem_iff s).2 (h3 s hs))
  have h4 := h.short
  simp at this
  omega

/-- The states with a mark: no fewer the other way round. -/
theorem rv_count {p : Lt} {l l' : List Met} (hp : check p = true) (h : Reach p l) (h' : Reach (rv p) l') (f f' : St → Bool) (hf : ∀ s, f' (tws p.threads.length s) = f s) : ((l.map (·.s)).filter f).length ≤ ((l'.map (·.s)).filter f').length := by
  have h1 : (((l.map (·.s)).filter f).map (tws p.threads.length)).Nodup := by
    refine List.Pairwise.map _ (R := fun a b => a ∈ (l.map (·.s)).filter f ∧ b ∈ (l.map (·.s)).filter f ∧ a ≠ b) (fun a b hab e => ?_) ?_
    · obtain ⟨ha, hb, hne⟩ := hab
      obtain ⟨n, hn⟩ := (h.mem_iff a).1 (List.mem_filter.1 ha).1
      obtain ⟨m, hm⟩ := (h.mem_iff b).1 (List.mem_filter.1 hb).1
      exact hne (by rw [← tws_tws hp hn, e, tws_tws hp hm])
    · exact List.Pairwise.imp_of_mem (fun {a b} ha hb hne => ⟨ha, hb, hne⟩) (h.nodup.filter _)
  have h2 := h1.length_le_of_subset (l₂ := (l'.map (·.s)).filter f') (fun s hs => by
    obtain ⟨x, hx, rfl⟩ := List.mem_map.1 hs
    obtain ⟨hx1, hx2⟩ := List.mem_filter.1 hx
    obtain ⟨n, hn⟩ := (h.mem_iff x).1 hx1
    exact List.mem_filter.2 ⟨(h'.mem_iff _).2 ⟨n, rv_path hp hn⟩, by rw [hf]; exact hx2⟩)
  simpa using h2
theorem filter_map_s (l : List Met) (f : St → Bool) : ((l.map (·.s)).filter f).length = (l.filter fun m => f m.s).length := by
  induction l with
  | nil => rfl
  | cons m l ih => simp only [List.map_cons, List.filter_cons]; cases f m.s <;> simp [ih]
/-- The first bad state: its turns are as many as there must be. -/
theorem first_bad {p : Lt} {l : List Met} (h : Reach p l) {i : Nat} (hi : l.findIdx? (·.s.bad) = some i) : i < l.length ∧ (at' l i).s.bad = true ∧ (told p l).turns.length = level l i ∧ ∀ n s, Path p n s → s.bad = true → level l i ≤ n := by
  have hlt : i < l.length := (List.findIdx?_eq_some_iff_getElem.1 hi).1
  have hb : (at' l i).s.bad = true := by
    obtain ⟨h1, h2, _⟩ := List.findIdx?_eq_some_iff_getElem.1 hi
    simpa [at', List.getD_eq_getElem?_getD, h1] using h2
  have hmin : ∀ k, k < l.length → (at' l k).s.bad = true → i ≤ k := fun k hk hkb => by
    apply Classical.byContradiction
    intro hh
    obtain ⟨_, _, h3⟩ := List.findIdx?_eq_some_iff_getElem.1 hi
    have := h3 k (by omega)
    have e : at' l k = l[k] := by simp [at', List.getD_eq_getElem?_getD, hk]
    rw [e] at hkb
    simp [hkb] at this
  refine ⟨hlt, hb, ?_, fun n s hn hs => ?_⟩
  · unfold told
    simp only [hi]
    rw [List.length_reverse, back_enough h.lnk (l.length + 1) (i + 1) i hlt (by omega) (by omega)]
    rfl
  · obtain ⟨k, hk, rfl, hl⟩ := h.of_path hn
    have := h.level_mono k i (hmin k hk hs) hk
    omega
theorem any_rv {p : Lt} {l l' : List Met} (hp : check p = true) (h : Reach p l) (h' : Reach (rv p) l') (hb : l.any (·.s.bad) = true) : l'.any (·.s.bad) = true := by
  obtain ⟨m, hm, hmb⟩ := List.any_eq_true.1 hb
  obtain ⟨n, hn⟩ := (h.mem_iff m.s).1 (List.mem_map_of_mem hm)
  have := (h'.mem_iff _).2 ⟨n, rv_path hp hn⟩
  obtain ⟨m', hm', e⟩ := List.mem_map.1 this
  exact List.any_eq_true.2 ⟨m', hm', by rw [e]; exact hmb⟩
theorem turns_le {p : Lt} {l l' : List Met} (hp : check p = true) (h : Reach p l) (h' : Reach (rv p) l') (hb : l.any (·.s.bad) = true) : (told (rv p) l').turns.length ≤ (told p l).turns.length := by
  have hb' := any_rv hp h h' hb
  obtain ⟨i, hi⟩ : ∃ i, l.findIdx? (·.s.bad) = some i := by
    cases hh : l.findIdx? (·.s.bad) with
    | some i => exact ⟨i, rfl⟩
    | none =>
      rw [List.findIdx?_eq_none_iff] at hh
      obtain ⟨m, hm, hmb⟩ := List.any_eq_true.1 hb
      simp [hh m hm] at hmb
  obtain ⟨i', hi'⟩ : ∃ i, l'.findIdx? (·.s.bad) = some i := by
    cases hh : l'.findIdx? (·.s.bad) with
    | some i => exact ⟨i, rfl⟩
    | none =>
      rw [List.findIdx?_eq_none_iff] at hh
      obtain ⟨m, hm, hmb⟩ := List.any_eq_true.1 hb'
      simp [hh m hm] at hmb
  obtain ⟨h1, h2, h3, _⟩ := first_bad h hi
  obtain ⟨_, _, h3', h4'⟩ := first_bad h' hi'
  rw [h3, h3']
  exact h4' _ _ (rv_path hp (h.path i h1)) h2
theorem turns_none {p : Lt} {l : List Met} (hb : l.any (·.s.bad) = false) : (told p l).turns = [] := by
  have : l.findIdx? (·.s.bad) = none := by
    rw [List.findIdx?_eq_none_iff]
    rw [List.any_eq_false] at hb
    intro x hx; simpa using hb x hx
  unfold told
  simp only [this]

theorem explore_rv (p : Lt) : (exploreF (rv p)).2 = (exploreF p).2 ∧ (exploreF (rv p)).1.states = (exploreF p).1.states ∧ (exploreF (rv p)).1.ends = (exploreF p).1.ends ∧ (exploreF (rv p)).1.bad = (exploreF p).1.bad ∧ (exploreF (rv p)).1.turns.length = (exploreF p).1.turns.length := by
  unfold exploreF
  rw [rv_check]
  by_cases hp : check p = true
  · rw [if_pos hp, if_pos hp]
    have hp' : check (rv p) = true := by rw [rv_check]; exact hp
    obtain ⟨⟨_, _, _, hT⟩, _⟩ := check_facts hp
    have hT' : (rv p).threads.length ≤ 4 := by rw [rv_threads]; exact hT
    cases h1 : goes p with
    | none =>
      have hm := many_rv hp (goes_many h1)
      cases h2 : goes (rv p) with
      | none => exact ⟨rfl, rfl, rfl, rfl, rfl⟩
      | some l' => exact (many_not (goes_reach h2) hm).elim
    | some l =>
      have hr := goes_reach h1
      cases h2 : goes (rv p) with
      | none =>
        have hm := many_rv hp' (goes_many h2)
        rw [rv_rv] at hm
        exact (many_not hr hm).elim
      | some l' =>
        have hr' := goes_reach h2
        have hrr : Reach (rv (rv p)) l := by rw [rv_rv]; exact hr
        have cnt : ∀ (f f' : St → Bool), (∀ s, f' (tws p.threads.length s) = f s) → (∀ s, f (tws (rv p).threads.length s) = f' s) → (l'.filter fun m => f' m.s).length = (l.filter fun m => f m.s).length := fun f f' e1 e2 => by
          have k1 := rv_count hp hr hr' f f' e1
          have k2 := rv_count hp' hr' hrr f' f e2
          rw [filter_map_s, filter_map_s] at k1 k2
          omega
        have hself : ∀ x : List Met, (x.filter fun _ => true) = x := fun x => List.filter_eq_self.2 (fun _ _ => rfl)
        have hlen := cnt (fun _ => true) (fun _ => true) (fun _ => rfl) (fun _ => rfl)
        rw [hself, hself] at hlen
        have hends := cnt (over p) (over (rv p)) (fun s => rv_over hT) (fun s => by
          have := rv_over (p := rv p) (s := s) hT'
          rw [rv_rv] at this
          exact this)
        have hbad : l'.any (·.s.bad) = l.any (·.s.bad) := by
          cases hb : l.any (·.s.bad) with
          | true => exact any_rv hp hr hr' hb
          | false =>
            cases hb' : l'.any (·.s.bad) with
            | false => rfl
            | true =>
              have := any_rv hp' hr' hrr hb'
              rw [hb] at this
              cases this
        refine ⟨rfl, ?_, ?_, hbad, ?_⟩
        · show ((l'.length : Nat) : Int) = l.length
          rw [hlen]
        · show (((l'.filter fun m => over (rv p) m.s).length : Nat) : Int) = ((l.filter fun m => over p m.s).length : Nat)
          rw [hends]
        · cases hb : l.any (·.s.bad) with
          | true =>
            have k1 := turns_le hp hr hr' hb
            rw [hb] at hbad
            have k2 := turns_le hp' hr' hrr hbad
            rw [rv_rv] at k2
            show (told (rv p) l').turns.length = (told p l).turns.length
            omega
          | false =>
            rw [hb] at hbad
            show (told (rv p) l').turns.length = (told p l).turns.length
            rw [turns_none hb, turns_none hbad]
  · rw [if_neg hp, if_neg hp]
    exact ⟨rfl, rfl, rfl, rfl, rfl⟩
end Go.Proofs.Ytmpgjnindbklaaa.Ex
