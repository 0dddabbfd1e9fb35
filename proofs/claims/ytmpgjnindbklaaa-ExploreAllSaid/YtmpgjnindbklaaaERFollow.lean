import Derived.Test.YtmpgjnindbklaaaERStep1
import Derived.Test.YtmpgjnindbklaaaERStep2
import Derived.Test.YtmpgjnindbklaaaERStep3
import Derived.Test.YtmpgjnindbklaaaERStep4
import Derived.Test.YtmpgjnindbklaaaERSpec
import Derived.Test.YtmpgjnindbklaaaEGrid
import Derived.Test.YtmpgjnindbklaaaEOwn
namespace Go.Proofs.Ytmpgjnindbklaaa
open Go.RowKit BA Ex

theorem refStep_walk (sw st sv : Value) (p : Lt) (xs : List Int) (k i : Nat) (x : Ln) (w : World) (h : PHas w sw st p) (hs : Reads w sv (ints xs)) (h8 : p.words.length ≤ 8) (hk : k < p.threads.length) (hT : p.threads.length ≤ 4)
    (hx : xs.length = p.words.length + 5 * p.threads.length + 1) (hi : i < (p.threads.getD k []).length) (hgi : g xs (p.words.length + 5 * k) = i) (hln : (p.threads.getD k []).getD i default = x) (hok : lineOK p.words.length (p.threads.getD k []).length x = true) :
    Calls Try.prog 42 #[.agg #[sw, st], sv, .int .i64 k] w fun e w' => ∃ v, e = .returned v ∧ OwnS w' w.heap.size 1 v xs.length (ints (fstep xs (p.words.length + 5 * k) x)) ∧ Below w.heap.size w w' := by
  by_cases h1 : x.op = 1
  · exact refStep_1 sw st sv p xs k i x w h hs h8 hk hT hx hi hgi hln hok h1
  by_cases h2 : x.op = 2
  · exact refStep_2 sw st sv p xs k i x w h hs h8 hk hT hx hi hgi hln hok h2
  by_cases h3 : x.op = 3
  · exact refStep_3 sw st sv p xs k i x w h hs h8 hk hT hx hi hgi hln hok h3
  by_cases h4 : x.op = 4
  · exact refStep_4 sw st sv p xs k i x w h hs h8 hk hT hx hi hgi hln hok h4
  by_cases h5 : x.op = 5
  · exact refStep_5 sw st sv p xs k i x w h hs h8 hk hT hx hi hgi hln hok h5
  by_cases h6 : x.op = 6
  · exact refStep_6 sw st sv p xs k i x w h hs h8 hk hT hx hi hgi hln hok h6
  by_cases h7 : x.op = 7
  · exact refStep_7 sw st sv p xs k i x w h hs h8 hk hT hx hi hgi hln hok h7
  by_cases h8' : x.op = 8
  · exact refStep_8 sw st sv p xs k i x w h hs h8 hk hT hx hi hgi hln hok h8'
  by_cases h9 : x.op = 9
  · exact refStep_9 sw st sv p xs k i x w h hs h8 hk hT hx hi hgi hln hok h9
  by_cases h10 : x.op = 10
  · exact refStep_10 sw st sv p xs k i x w h hs h8 hk hT hx hi hgi hln hok h10
  · simp [lineOK, h1, h2, h3, h4, h5, h6, h7, h8', h9, h10] at hok
end Go.Proofs.Ytmpgjnindbklaaa
/-! The document's step on its flat state is the step. No program in sight. -/
namespace Go.Proofs.Ytmpgjnindbklaaa.Ex
open Go.Proofs.Ytmpgjnindbklaaa

/-- Where a flat state's number stands among the 28. -/
def psi (n i : Nat) : Nat := if i < n then i else if (i - n) % 5 = 0 then 8 + (i - n) / 5 else 12 + 4 * ((i - n) / 5) + ((i - n) % 5 - 1)

theorem psi_word {n i : Nat} (h : i < n) : psi n i = i := by unfold psi; rw [if_pos h]
theorem psi_at (n k : Nat) : psi n (n + 5 * k) = 8 + k := by unfold psi; rw [if_neg (by omega), if_pos (by omega)]; omega
theorem psi_reg (n k a : Nat) (ha : a < 4) : psi n (n + 5 * k + 1 + a) = 12 + 4 * k + a := by unfold psi; rw [if_neg (by omega), if_neg (by omega)]; omega
theorem psi_lt {n i T : Nat} (hn : n ≤ 8) (hT : T ≤ 4) (hi : i < n + 5 * T) : psi n i < 28 := by unfold psi; split <;> (try split) <;> omega
theorem psi_inj {n i j T : Nat} (hn : n ≤ 8) (hT : T ≤ 4) (hi : i < n + 5 * T) (hj : j < n + 5 * T) (h : psi n i = psi n j) : i = j := by
  unfold psi at h
  split at h <;> split at h <;> (try split at h) <;> (try split at h) <;> omega

theorem g_append_left {a b : List Int} {i : Nat} (h : i < a.length) : g (a ++ b) i = g a i := by
  simp [g, List.getD_eq_getElem?_getD, List.getElem?_append_left h]
theorem g_append_right {a b : List Int} {i : Nat} (h : a.length ≤ i) : g (a ++ b) i = g b (i - a.length) := by
  simp [g, List.getD_eq_getElem?_getD, List.getElem?_append_right h]
theorem g_take {l : List Int} {i n : Nat} (h : i < n) : g (l.take n) i = g l i := by
  simp [g, List.getD_eq_getElem?_getD, h]
theorem g_drop (l : List Int) (n i : Nat) : g (l.drop n) i = g l (n + i) := by
  simp [g, List.getD_eq_getElem?_getD]
theorem ext_g {a b : List Int} (hl : a.length = b.length) (h : ∀ i, i < a.length → g a i = g b i) : a = b := by
  apply List.ext_getElem hl
  intro i h1 h2
  have := h i h1
  simpa [g, List.getD_eq_getElem?_getD, h1, h2] using this

theorem fullTo_g {p : Lt} {c : List Int} (hc : c.length = 28) (h8 : p.words.length ≤ 8) {k : Nat} (hk : k ≤ 4) {i : Nat} (hi : i < p.words.length + 5 * k) : g (fullTo p c k) i = g c (psi p.words.length i) := by
  induction k with
  | zero =>
    have e0 : fullTo p c 0 = c.take p.words.length := by simp [fullTo]
    rw [e0, g_take (by omega), psi_word (by omega)]
  | succ k ih =>
    rw [fullTo_succ]
    have hl := fullTo_len (p := p) hc h8 (k := k) (by omega)
    by_cases hlt : i < p.words.length + 5 * k
    · rw [g_append_left (by omega)]
      exact ih (by omega) hlt
    · rw [g_append_right (by omega), hl]
      obtain ⟨j, hj⟩ : ∃ j, i = p.words.length + 5 * k + j := ⟨i - (p.words.length + 5 * k), by omega⟩
      subst hj
      rw [Nat.add_sub_cancel_left]
      cases j with
      | zero => rw [Nat.add_zero, psi_at]; rfl
      | succ j =>
        have e1 : g (g c (8 + k) :: (c.drop (12 + 4 * k)).take 4) (j + 1) = g ((c.drop (12 + 4 * k)).take 4) j := by simp [g]
        rw [e1, g_take (by omega), g_drop, ← psi_reg p.words.length k j (by omega)]
        congr 2
        omega

theorem flat_len {p : Lt} {s : St} (hc : s.c.length = 28) (h8 : p.words.length ≤ 8) (hT : p.threads.length ≤ 4) : (flat p s).length = p.words.length + 5 * p.threads.length + 1 := by
  unfold flat
  rw [List.length_append, full_to, fullTo_len hc h8 hT]; rfl
theorem flat_g {p : Lt} {s : St} (hc : s.c.length = 28) (h8 : p.words.length ≤ 8) (hT : p.threads.length ≤ 4) {i : Nat} (hi : i < p.words.length + 5 * p.threads.length) : g (flat p s) i = g s.c (psi p.words.length i) := by
  unfold flat
  rw [full_to, g_append_left (by rw [fullTo_len hc h8 hT]; exact hi), fullTo_g hc h8 hT hi]
theorem flat_bad {p : Lt} {s : St} (hc : s.c.length = 28) (h8 : p.words.length ≤ 8) (hT : p.threads.length ≤ 4) : g (flat p s) (p.words.length + 5 * p.threads.length) = if s.bad then 1 else 0 := by
  unfold flat
  rw [full_to, g_append_right (by rw [fullTo_len hc h8 hT]; exact Nat.le_refl _), fullTo_len hc h8 hT, Nat.sub_self]
  rfl
theorem flat_set {p : Lt} {c : List Int} {bad : Bool} (hc : c.length = 28) (h8 : p.words.length ≤ 8) (hT : p.threads.length ≤ 4) {i : Nat} (hi : i < p.words.length + 5 * p.threads.length) (v : Int) : (flat p ⟨c, bad⟩).set i v = flat p ⟨c.set (psi p.words.length i) v, bad⟩ := by
  have hl := flat_len (s := ⟨c, bad⟩) hc h8 hT
  have hc' : (c.set (psi p.words.length i) v).length = 28 := by simpa using hc
  have hl' := flat_len (s := ⟨c.set (psi p.words.length i) v, bad⟩) hc' h8 hT
  apply ext_g (by rw [List.length_set, hl, hl'])
  intro j hj
  rw [List.length_set, hl] at hj
  by_cases hjl : j < p.words.length + 5 * p.threads.length
  · rw [flat_g hc' h8 hT hjl]
    by_cases hij : i = j
    · subst hij
      rw [gset_eq _ (by omega), gset_eq _ (by have := psi_lt h8 hT hi; omega)]
    · rw [gset_ne _ hij, flat_g hc h8 hT hjl, gset_ne]
      intro e
      exact hij (psi_inj h8 hT hi hjl e)
  · obtain rfl : j = p.words.length + 5 * p.threads.length := by omega
    rw [gset_ne _ (by omega), flat_bad (s := ⟨c, bad⟩) hc h8 hT, flat_bad hc' h8 hT]
theorem flat_setbad {p : Lt} {c : List Int} (hc : c.length = 28) (h8 : p.words.length ≤ 8) (hT : p.threads.length ≤ 4) (bad : Bool) : (flat p ⟨c, bad⟩).set (p.words.length + 5 * p.threads.length) 1 = flat p ⟨c, true⟩ := by
  unfold flat full
  rw [List.set_append_right _ _ (by rw [← full, full_to, fullTo_len hc h8 hT]; exact Nat.le_refl _)]
  rw [← full, full_to, fullTo_len hc h8 hT]
  simp
end Go.Proofs.Ytmpgjnindbklaaa.Ex
namespace Go.Proofs.Ytmpgjnindbklaaa.Ex
open Go.Proofs.Ytmpgjnindbklaaa

theorem fstep_key {p : Lt} {c : List Int} {k lines : Nat} {x : Ln} (hc : c.length = 28) (h8 : p.words.length ≤ 8) (hT : p.threads.length ≤ 4) (hk : k < p.threads.length) (hok : lineOK p.words.length lines x = true) :
    fout (flat p ⟨c, false⟩) (p.words.length + 5 * k) x = flat p ⟨(own (shared c (12 + 4 * k) x) (12 + 4 * k) x (g c (8 + k))).1, (own (shared c (12 + 4 * k) x) (12 + 4 * k) x (g c (8 + k))).2.2⟩ ∧
    fnext (flat p ⟨c, false⟩) (p.words.length + 5 * k) x = (own (shared c (12 + 4 * k) x) (12 + 4 * k) x (g c (8 + k))).2.1 := by
  have gw : ∀ j, j < p.words.length → g (flat p ⟨c, false⟩) j = g c j := fun j hj => by rw [flat_g (s := ⟨c, false⟩) hc h8 hT (by omega), psi_word hj]
  have gr : ∀ a, a < 4 → g (flat p ⟨c, false⟩) (p.words.length + 5 * k + 1 + a) = g c (12 + 4 * k + a) := fun a ha => by rw [flat_g (s := ⟨c, false⟩) hc h8 hT (by omega), psi_reg _ _ _ ha]
  have gb : g (flat p ⟨c, false⟩) (p.words.length + 5 * k) = g c (8 + k) := by rw [flat_g (s := ⟨c, false⟩) hc h8 hT (by omega), psi_at]
  have sw : ∀ (c1 : List Int) j v, c1.length = 28 → j < p.words.length → (flat p ⟨c1, false⟩).set j v = flat p ⟨c1.set j v, false⟩ := fun c1 j v h1 hj => by rw [flat_set h1 h8 hT (by omega), psi_word hj]
  have sr : ∀ (c1 : List Int) a v, c1.length = 28 → a < 4 → (flat p ⟨c1, false⟩).set (p.words.length + 5 * k + 1 + a) v = flat p ⟨c1.set (12 + 4 * k + a) v, false⟩ := fun c1 a v h1 ha => by rw [flat_set h1 h8 hT (by omega), psi_reg _ _ _ ha]
  obtain ⟨op, a, b, d⟩ := x
  by_cases h1 : op = 1
  · subst h1
    have hx : reg a = true ∧ word p.words.length b = true := by simpa [lineOK] using hok
    obtain ⟨a, rfl, ha⟩ := reg_nat hx.1
    obtain ⟨b, rfl, hb⟩ := word_nat hx.2
    simp [fout, fnext, shared, own, gw b hb, gb, sr c a _ hc ha]
  by_cases h2 : op = 2
  · subst h2
    have hx : word p.words.length a = true ∧ reg b = true := by simpa [lineOK] using hok
    obtain ⟨a, rfl, ha⟩ := word_nat hx.1
    obtain ⟨b, rfl, hb⟩ := reg_nat hx.2
    simp [fout, fnext, shared, own, gr b hb, gb, sw c a _ hc ha]
  by_cases h3 : op = 3
  · subst h3
    have hx : reg a = true ∧ word p.words.length b = true := by simpa [lineOK] using hok
    obtain ⟨a, rfl, ha⟩ := reg_nat hx.1
    obtain ⟨b, rfl, hb⟩ := word_nat hx.2
    simp [fout, fnext, shared, own, gw b hb, gb, sr c a _ hc ha]
    exact sw _ b _ (by simpa using hc) hb
  by_cases h4 : op = 4
  · subst h4
    have hx : reg a = true ∧ word p.words.length b = true := by simpa [lineOK] using hok
    obtain ⟨a, rfl, ha⟩ := reg_nat hx.1
    obtain ⟨b, rfl, hb⟩ := word_nat hx.2
    simp [fout, fnext, shared, own, gw b hb, gr a ha, gb, sr c a _ hc ha]
    exact sw _ b _ (by simpa using hc) hb
  by_cases h5 : op = 5
  · subst h5
    have hx : (word p.words.length a = true ∧ reg b = true) ∧ reg d = true := by simpa [lineOK] using hok
    obtain ⟨a, rfl, ha⟩ := word_nat hx.1.1
    obtain ⟨b, rfl, hb⟩ := reg_nat hx.1.2
    obtain ⟨d, rfl, hd⟩ := reg_nat hx.2
    by_cases he : g c a = g c (12 + 4 * k + b)
    · simp [fout, fnext, shared, own, gw a ha, gr b hb, gr d hd, gb, sw c a _ hc ha, he]
      exact sr _ 3 _ (by simpa using hc) (by omega)
    · simp [fout, fnext, shared, own, gw a ha, gr b hb, gb, sr _ 3 _ hc (by omega), he]
  by_cases h6 : op = 6
  · subst h6
    obtain ⟨a, rfl, ha⟩ := reg_nat (a := a) (by simpa [lineOK] using hok)
    simp [fout, fnext, shared, own, gb, sr c a _ hc ha]
  by_cases h7 : op = 7
  · subst h7
    have hx : reg a = true ∧ reg b = true := by simpa [lineOK] using hok
    obtain ⟨a, rfl, ha⟩ := reg_nat hx.1
    obtain ⟨b, rfl, hb⟩ := reg_nat hx.2
    simp [fout, fnext, shared, own, gr b hb, gb, sr c a _ hc ha]
  by_cases h8' : op = 8
  · subst h8'
    have hx : reg a = true ∧ place lines d = true := by simpa [lineOK] using hok
    obtain ⟨a, rfl, ha⟩ := reg_nat hx.1
    simp [fout, fnext, shared, own, gr a ha, gb]
  by_cases h9 : op = 9
  · subst h9
    simp [fout, fnext, shared, own]
  by_cases h10 : op = 10
  · subst h10
    obtain ⟨a, rfl, ha⟩ := reg_nat (a := a) (by simpa [lineOK] using hok)
    have hl := flat_len (s := ⟨c, false⟩) hc h8 hT
    by_cases he : g c (12 + 4 * k + a) = b
    · simp [fout, fnext, shared, own, gr a ha, gb, he]
    · simp [fout, fnext, shared, own, gr a ha, gb, he, hl, flat_setbad hc h8 hT false]
  · exfalso
    simp [lineOK, h1, h2, h3, h4, h5, h6, h7, h8', h9, h10] at hok

theorem fstep_flat {p : Lt} {s s' : St} {k : Nat} (hp : check p = true) (hw : Wf p s) (h : step p s k = some s') :
    ∃ x, lineAt p s.c k = some x ∧ fstep (flat p s) (p.words.length + 5 * k) x = flat p s' := by
  obtain ⟨x, hb, hx, rfl⟩ := step_some h
  obtain ⟨hk, hlt, hxe⟩ := lineAt_some hx
  obtain ⟨⟨_, h8, _, h4⟩, hT⟩ := check_facts hp
  have h0 := (hw.at' k hk).1
  have hok : lineOK p.words.length (p.threads.getD k []).length x = true := by rw [hxe]; exact (hT k hk).2 (g s.c (8 + k)).toNat (by omega)
  obtain ⟨c, bad⟩ := s
  dsimp only at hb
  subst hb
  have hc : c.length = 28 := hw.len
  obtain ⟨k1, k2⟩ := fstep_key hc h8 h4 hk hok
  refine ⟨x, hx, ?_⟩
  unfold fstep
  rw [k1, k2, flat_set (by rw [own_len, shared_len]; exact hc) h8 h4 (by omega), psi_at]
end Go.Proofs.Ytmpgjnindbklaaa.Ex
namespace Go.Proofs.Ytmpgjnindbklaaa
open Go.RowKit BA Ex

/-- The head of a row that a call has made reads as a row. -/
theorem OwnS.prefix {w : World} {base : Nat} {v : Value} {a z : List Int} (h : OwnS w base 1 v (a ++ z).length (ints (a ++ z))) (ha : 0 < a.length) : ∃ b c, v = .slice (some ⟨b, 0, none⟩) (a ++ z).length c ∧ base ≤ b ∧ (a ++ z).length ≤ c ∧ Reads w (.slice (some ⟨b, 0, none⟩) a.length c) (ints a) := by
  obtain ⟨O, cap, hv, hb, hO⟩ := RowI.of h (by simp; omega)
  refine ⟨O, cap, hv, hb, hO.le, .inr ⟨fun e => by rw [show a = [] by simpa [ints] using e] at ha; simp at ha, O, 0, cap, by simp [ints], by have := hO.le; simp [ints] at this ⊢; omega, hO.cm, fun i u hu => ?_⟩⟩
  have hi : i < a.length := by
    have := (List.getElem?_eq_some_iff.1 hu).1
    simpa [ints] using this
  have hc := hO.at' (i := i) (by simp; omega)
  rw [Nat.zero_add, hc]
  rw [g_append_left hi]
  simp only [ints, List.getElem?_map, List.getElem?_eq_getElem hi, Option.map_some, Option.some.injEq] at hu
  rw [← hu]
  simp [g, List.getD_eq_getElem?_getD, hi]

theorem flat_first {p : Lt} (h8 : p.words.length ≤ 8) (hT : p.threads.length ≤ 4) : flat p (first p) = p.words ++ List.replicate (5 * p.threads.length + 1) 0 := by
  have hc : (first p).c.length = 28 := first_len h8
  apply ext_g (by rw [flat_len hc h8 hT]; simp; omega)
  intro i hi
  rw [flat_len hc h8 hT] at hi
  by_cases hw : i < p.words.length
  · rw [flat_g hc h8 hT (by omega), psi_word hw, g_append_left hw]
    simp only [first]
    rw [g_append_left hw]
  · rw [g_append_right (by omega)]
    have e0 : g (List.replicate (5 * p.threads.length + 1) 0) (i - p.words.length) = 0 := by simp [g, List.getD_eq_getElem?_getD, List.getElem?_replicate]; split <;> rfl
    rw [e0]
    by_cases hl : i < p.words.length + 5 * p.threads.length
    · rw [flat_g hc h8 hT hl]
      have hge : p.words.length ≤ psi p.words.length i := by unfold psi; rw [if_neg hw]; split <;> omega
      simp only [first]
      rw [g_append_right hge]
      simp [g, List.getD_eq_getElem?_getD, List.getElem?_replicate]; split <;> rfl
    · obtain rfl : i = p.words.length + 5 * p.threads.length := by omega
      rw [flat_bad hc h8 hT]; rfl
theorem flat_split (p : Lt) (s : St) : flat p s = full p s ++ [if s.bad then 1 else 0] := rfl

theorem fresh_shape {w : World} {base : Nat} {v : Value} {l : List Int} {m : Nat} (h : OwnS w base 1 v (0 + (ints l).length) ([] ++ ints l)) (hm : l.length = m) : ∃ ao c, v = .slice ao m c ∧ OwnS w base 1 v m (ints l) := by
  have h' : OwnS w base 1 v m (ints l) := by simpa [ints, hm] using h
  obtain ⟨ao, c, hv⟩ := ints_shape h'.reads
  exact ⟨ao, c, by rw [hv, hm], h'⟩
theorem slice_one (ra : Option Addr) (m rc : Nat) : ∀ u ∈ [Value.slice ra m rc], u.oneCell' = true := by
  intro u hu
  simp only [List.mem_singleton] at hu
  subst hu; rfl

set_option maxRecDepth 100000 in
set_option maxHeartbeats 4000000 in
theorem refFollow_walk (sw st tv : Value) (p : Lt) (l : List Int) (w : World) (h : PHas w sw st p) (ht : Reads w tv (ints l)) (hl : l.length ≤ 1000000) :
    Calls Try.prog 20 #[.agg #[sw, st], tv] w fun e w' => ∃ v vs, e = .returned (.tuple #[v, .bool (followF p l).2.1, .int .i64 (followF p l).2.2]) ∧ OwnG w' w.heap.size v vs (followF p l).1 ∧ Below w.heap.size w w' := by
  obtain ⟨at0, ct, rfl⟩ := h.threads.shape
  obtain ⟨aw, cw, rfl⟩ := h.words_shape
  obtain ⟨al, cl, rfl⟩ := ints_shape ht
  have hR := RChk.begin h
  have H0 := Lib.hid h
  have HT := Lib.hid ht
  clear h ht
  go_enter Try.func20, Try.ntmps20
  go_upto_region 1 with fail
  generalize hW : w.alloc (.cells #[.slice aw p.words.length cw, .slice at0 p.threads.length ct] 25 (0, 0)) = w1 at hR ⊢
  clear hW
  generalize hN : w.heap.size = N at hR ⊢
  have HN := Lib.hid hN
  clear hN
  have q0 := hR.cell0
  have q1 := hR.cell1
  go_wp2_with fail
  refine (refCheck_walk _ _ p w1 hR.has).mono ?_
  rintro e w2 ⟨rfl, hb2⟩
  have hR2 := hR.more hb2
  clear hR hb2 q0 q1
  by_cases hp : check p = true
  · obtain ⟨⟨hn0, h8, _, h4⟩, _⟩ := check_facts hp
    by_cases hl2 : l.length ≤ 20000
    · have hF : followF p l = ((turns p l).2, (turns p l).1.bad, 0) := by unfold followF; rw [if_pos ⟨hp, hl2⟩]
      have HF := Lib.hid hF
      clear hF
      have q0 := hR2.cell0
      have q1 := hR2.cell1
      go_wp2_with fail
      refine (refFirst_walk _ _ p w2 hR2.has h8 h4).mono ?_
      rintro e w3 ⟨v3, rfl, hv3, hb3⟩
      have hR3 := hR2.more hb3
      have hw2 : N + 1 ≤ w2.heap.size := by have := hR2.box; rw [Array.getElem?_eq_some_iff] at this; exact this.1
      have hw3 : N + 1 ≤ w3.heap.size := Nat.le_trans hw2 hb3.size
      have hS3 : OwnS w3 (N + 1) 1 v3 (flat p (turns p (l.take 0)).1).length (ints (flat p (turns p (l.take 0)).1)) := by
        have e0 : (turns p (l.take 0)).1 = first p := rfl
        have e1 : flat p (first p) = p.words ++ List.replicate (5 * p.threads.length + 1) 0 := flat_first h8 h4
        rw [e0, e1, List.length_append, List.length_replicate]
        exact ownS_base hv3 hw2
      clear hR2 hb3 q0 q1 hv3 hw2
      have hi : Try.prog.info? 3 = some Try.t3 := by kernel_rfl
      have hj : Try.prog.info? 22 = some Try.t22 := by kernel_rfl
      have HI := Lib.hid hi
      have HJ := Lib.hid hj
      clear hi hj
      go_wp2_with fail
      go_loopw [7, 8, 9] (fun sv ov iv wr => ∃ (i : Nat) (vs : List Value), i ≤ l.length ∧ iv = .int .i64 i ∧ RChk w wr N (.slice aw p.words.length cw) (.slice at0 p.threads.length ct) p ∧ OwnS wr (N + 1) 1 sv (flat p (turns p (l.take i)).1).length (ints (flat p (turns p (l.take i)).1)) ∧ OwnG wr (N + 1) ov vs (turns p (l.take i)).2 ∧ N + 1 ≤ wr.heap.size ∧ (sv.ownBlock = none ∨ sv.ownBlock ≠ ov.ownBlock)) (fun _ _ iv _ => l.length - (intOf iv).toNat)
      case atStart => exact ⟨0, [], by omega, rfl, hR3, hS3, OwnG.nil _ _, hw3, by
        cases hb : v3.ownBlock with
        | none => exact .inl rfl
        | some k => exact .inr (by simp [Value.ownBlock])⟩
      case round =>
        clear hR3 hS3 hw3
        obtain ⟨i, vs, hil, rfl, hR, hS, hG, hsz, hne⟩ := hrel
        by_cases hlt : i < l.length
        · have hwf := turns_wf hp (l.take i)
          have htn := turns_succ p l i hlt
          have hsh := turns_short p (l.take (i + 1))
          generalize turns p (l.take i) = x at hS hG hwf htn
          obtain ⟨s, ls⟩ := x
          have htr : Reads wr (.slice al l.length cl) (ints l) := HT.out.same fun k _ hk => hR.below.block k (by rw [← HN.out]; exact hk)
          obtain ⟨tb, t0, tc, hv, htb⟩ := ints_form htr (by omega)
          cases hv
          have hti := ints_at htr hlt
          generalize hki : l.getD i 0 = ki at hti
          have hki' : g l i = ki := hki
          rw [hki'] at htn
          clear hki hki' htr
          have q0 := hR.cell0
          have q1 := hR.cell1
          have HTN := Lib.hid htn
          have HW := Lib.hid hwf
          clear htn
          have hfl := flat_len (p := p) (s := s) hwf.len h8 h4
          have hfb := flat_bad (p := p) (s := s) hwf.len h8 h4
          by_cases hk0 : ki < 0
          · have e1 : decide (ki < 0) = true := decide_eq_true hk0
            have ht1 : turns p (l.take (i + 1)) = (s, ls) := by rw [HTN.out]; unfold turn stepI; rw [if_neg (by omega)]
            have HT1 := Lib.hid ht1
            clear ht1 hsh hfl hfb hwf
            go_wp2
            go_roundw
            case rel => exact ⟨i + 1, vs, by omega, by go_num, hR, by rw [HT1.out]; exact hS, by rw [HT1.out]; exact hG, hsz, hne⟩
            case measure => simp [intOf]; omega
          · have e1 : decide (ki < 0) = false := decide_eq_false hk0
            obtain ⟨k, rfl⟩ := Int.eq_ofNat_of_zero_le (by omega : 0 ≤ ki)
            have hst : stepI p s (k : Int) = Ex.step p s k := by unfold stepI; rw [if_pos (by omega)]; rfl
            by_cases hkT : k < p.threads.length
            · have e2 : decide ((p.threads.length : Int) ≤ (k : Int)) = false := decide_eq_false (by omega)
              have hbad : (g (flat p s) ((flat p s).length - 1) == 1) = s.bad := by
                rw [hfl, Nat.add_sub_cancel, hfb]; cases s.bad <;> rfl
              go_wp2_with fail
              refine (refBad_walk _ (flat p s) wr hS.reads (by omega) (by omega)).mono ?_
              rintro e wx ⟨rfl, rfl⟩
              rw [hbad]
              by_cases hsb : s.bad = true
              · have ht1 : turns p (l.take (i + 1)) = (s, ls) := by
                  rw [HTN.out]; unfold turn; dsimp only; rw [hst]; simp [Ex.step, hsb]
                have HT1 := Lib.hid ht1
                rw [hsb]
                clear ht1 hsh hfl hfb hwf hst hbad
                go_wp2
                go_roundw
                case rel => exact ⟨i + 1, vs, by omega, by go_num, hR, by rw [HT1.out]; exact hS, by rw [HT1.out]; exact hG, hsz, hne⟩
                case measure => simp [intOf]; omega
              · have hsb' : s.bad = false := by simpa using hsb
                rw [hsb']
                go_wp2_with fail
                refine (refOver_walk _ _ _ p (flat p s) k wx hR.has hS.reads h8 hkT h4 (by omega) (by omega)).mono ?_
                rintro e w5 ⟨rfl, hb5⟩
                have hR5 := hR.more hb5
                have hS5 := OwnS.below hS hb5
                have hG5 := hG.below hb5
                have hsz5 := Nat.le_trans hsz hb5.size
                have hgk : g (flat p s) (p.words.length + 5 * k) = g s.c (8 + k) := by rw [flat_g hwf.len h8 h4 (by omega), psi_at]
                clear hR hS hG q0 q1 hb5 hsz
                have q0 := hR5.cell0
                have q1 := hR5.cell1
                cases hl' : lineAt p s.c k with
                | none =>
                  have hov := lineAt_none hkT hl'
                  have heq : (g (flat p s) (p.words.length + 5 * k) == ((p.threads.getD k []).length : Int)) = true := by
                    rw [hgk]; have := (hwf.at' k hkT).2; simp only [beq_iff_eq]; omega
                  rw [heq]
                  have ht1 : turns p (l.take (i + 1)) = (s, ls) := by
                    rw [HTN.out]; unfold turn; dsimp only; rw [hst]; simp [Ex.step, hl', hsb']
                  have HT1 := Lib.hid ht1
                  clear ht1 hsh hfl hfb hwf hst hbad hgk heq hov hl'
                  go_wp2
                  go_roundw
                  case rel => exact ⟨i + 1, vs, by omega, by go_num, hR5, by rw [HT1.out]; exact hS5, by rw [HT1.out]; exact hG5, hsz5, hne⟩
                  case measure => simp [intOf]; omega
                | some x =>
                  obtain ⟨_, hlt', hx⟩ := lineAt_some hl'
                  have heq : (g (flat p s) (p.words.length + 5 * k) == ((p.threads.getD k []).length : Int)) = false := by
                    rw [hgk]; simp only [beq_eq_false_iff_ne]; omega
                  rw [heq]
                  obtain ⟨j, hj⟩ := Int.eq_ofNat_of_zero_le (hwf.at' k hkT).1
                  have hjlt : j < (p.threads.getD k []).length := by omega
                  have hxj : (p.threads.getD k []).getD j default = x := by rw [hx, hj]; rfl
                  have hok : lineOK p.words.length (p.threads.getD k []).length x = true := by rw [← hxj]; exact ((check_facts hp).2 k hkT).2 j hjlt
                  obtain ⟨s', hs'⟩ : ∃ s', Ex.step p s k = some s' := by simp [Ex.step, hl', hsb']
                  obtain ⟨x', hx', hfs⟩ := fstep_flat hp hwf hs'
                  rw [hl'] at hx'
                  cases hx'
                  have ht1 : turns p (l.take (i + 1)) = (s', ls ++ [full p s']) := by rw [HTN.out]; unfold turn; dsimp only; rw [hst, hs']
                  have hwf' : Wf p s' := step_wf hp hwf hs'
                  rw [ht1] at hsh
                  have hls : ls.length + 1 ≤ 20000 := by simp at hsh; omega
                  have HT1 := Lib.hid ht1
                  go_wp2_with fail
                  refine (refStep_walk _ _ _ p (flat p s) k j x w5 hR5.has hS5.reads h8 hkT h4 hfl hjlt (by rw [hgk, hj]) hxj hok).mono ?_
                  rintro e w6 ⟨v6, rfl, hv6, hb6⟩
                  have hfl' := flat_len (p := p) (s := s') hwf'.len h8 h4
                  rw [hfs, hfl, ← hfl'] at hv6
                  have hfu : 0 < (full p s').length := by
                    have := hfl'; rw [flat_split, List.length_append] at this; simp only [List.length_cons, List.length_nil] at this; omega
                  have hv6p := hv6
                  rw [flat_split] at hv6p
                  obtain ⟨fb, fc, hv6e, hfbs, hfc, hrd⟩ := OwnS.prefix hv6p hfu
                  have hR6 := hR5.more hb6
                  have hG6 := hG5.below hb6
                  have hsz6 := Nat.le_trans hsz5 hb6.size
                  have hfb6 : fb < w6.heap.size := (hv6p.blk fb (by rw [hv6e]; rfl)).2
                  have hm40 : (full p s').length ≤ 40 := by
                    have := hfl'; rw [flat_split, List.length_append] at this; simp only [List.length_cons, List.length_nil] at this; omega
                  rw [List.length_append] at hv6e hfc
                  simp only [List.length_cons, List.length_nil, Nat.zero_add] at hv6e hfc
                  have HV6 := Lib.hid hv6
                  have HR6 := Lib.hid hR6
                  have HG6 := Lib.hid hG6
                  have HB6 := Lib.hid hb6
                  have HG5 := Lib.hid hG5
                  clear hv6 hv6p hR6 hG6 hR5 hS5 hG5 hfs hfl' hfl hfb hwf hwf' hst hbad hgk heq hok hxj hj hlt' hx hl' hs' ht1 hsh q0 q1 hb6
                  generalize hmm : (full p s').length = m at hv6e hfc hrd hfu hm40
                  have HMM := Lib.hid hmm
                  clear hmm
                  have hfci : (m : Int) ≤ (fc : Int) := by omega
                  subst hv6e
                  have HRD := Lib.hid hrd
                  clear hrd
                  have n1 : 0 + (ints (full p s')).length ≤ maxLen := by simp only [ints, List.length_map, HMM.out]; unfold maxLen; omega
                  have n2 : (0 + (ints (full p s')).length) * 8 ≤ 140737488355328 := by simp only [ints, List.length_map, HMM.out]; omega
                  have n3 : ls.length + 1 ≤ maxLen := by unfold maxLen; omega
                  have n4 : (ls.length + 1) * 24 ≤ 140737488355328 := by omega
                  have N1 := Lib.hid n1
                  have N2 := Lib.hid n2
                  clear n1 n2
                  go_wp2_with (first
                    | (at_builtin; refine wpList_append_reads _ rfl _ _ 22 rfl w6.heap.size 3 Try.t3 (.int .i64 0) 8 Try.underlying22 HI.out rfl rfl rfl rfl (.slice none 0 0) 0 [] rfl (OwnS.nil _ _ _) (.slice (some ⟨fb, 0, none⟩) m fc) (ints (full p s')) rfl HRD.out (ints_one _) N1.out N2.out (Nat.le_refl _) ?_; intro v7 w7 hv7 hg7 hob7; obtain ⟨ra, rc, hv7e, hv7o⟩ := fresh_shape hv7 HMM.out; subst hv7e; replace hg7 : w6.grownBy w7 none := hg7; have HV7 := Lib.hid hv7o; have HG7 := Lib.hid hg7; have hown := OwnS.alloc (HG6.out.kept hg7 (fun k hk => by cases hk)).own (.cells #[.slice ra m rc] 22 (0, 0)); have hcell := cell_new0 w7 (.slice ra m rc) 22; have n5 : N + 1 ≤ (w7.alloc (.cells #[.slice ra m rc] 22 (0, 0))).heap.size := (by have := hg7.size; simp; omega); clear hv7 hg7 hob7 hv7o)
                    | (at_builtin; refine wpList_append_ownS _ rfl (.tmp 54) (.tmp 61) 38 rfl (N + 1) 22 Try.t22 (.slice none 0 0) 1 24 Try.underlying38 HJ.out rfl rfl rfl rfl (by decide) u8 ls.length vs rfl hown ⟨w7.heap.size, 0, none⟩ 1 1 [.slice ra m rc] rfl rfl hcell (slice_one ra m rc) n3 n4 n5 ?_; intro v9 w9 hv9 hg9 hob9))
                  go_roundw
                  case rel =>
                    have hal : Below w7.heap.size w7 (w7.alloc (.cells #[.slice ra m rc] 22 (0, 0))) := (Below.refl _ _).alloc (Nat.le_refl _) _
                    have hG7 := HG6.out.kept HG7.out (fun k hk => by cases hk)
                    have hu8 : ∀ j, u8.ownBlock = some j → N + 1 ≤ j ∧ j < w5.heap.size := fun j hj => HG5.out.own.blk j hj
                    have hs67 := HG7.out.size
                    have hne6 : (Value.slice (some ⟨fb, 0, none⟩) (m + 1) fc).ownBlock = none ∨ (Value.slice (some ⟨fb, 0, none⟩) (m + 1) fc).ownBlock ≠ u8.ownBlock := .inr (fun e => by
                      have := (hu8 fb e.symm).2; omega)
                    have hR9 : RChk w w9 N (.slice aw p.words.length cw) (.slice at0 p.threads.length ct) p :=
                      ((HR6.out.grown H0.out HN.out HG7.out (fun k hk => by cases hk)).more hal).grown H0.out HN.out hg9 (fun j hj => by have := (hu8 j hj).1; omega)
                    refine ⟨i + 1, vs ++ [.slice ra m rc], by omega, by go_num, hR9, ?_, ?_, Nat.le_trans n5 hg9.size, ?_⟩
                    · rw [HT1.out]
                      have h1 := HV6.out.kept HG7.out (.inr (by simp [Value.ownBlock]))
                      exact ownS_base ((OwnS.below h1 hal).kept hg9 hne6) (by have := HB6.out.size; omega)
                    · rw [HT1.out]
                      refine (hG7.below hal).push (by rw [HMM.out]; exact OwnS.alloc (ownS_base HV7.out hsz6) _) ?_ hv9 hg9 hob9
                      cases hub : (Value.slice ra m rc).ownBlock with
                      | none => exact .inl rfl
                      | some j =>
                        refine .inr fun e => ?_
                        have q1 := (HV7.out.blk j hub).1
                        have q2 := (hu8 j e.symm).2
                        have q3 := HB6.out.size
                        omega
                    · refine .inr fun e => ?_
                      rcases hob9 with ho | ho | ⟨j, hj, hle⟩
                      · rw [ho] at e
                        rcases hne6 with h1 | h1
                        · cases h1
                        · exact h1 e
                      · rw [ho] at e; cases e
                      · rw [hj] at e
                        simp only [Value.ownBlock, Option.some.injEq] at e
                        simp at hle
                        omega
                  case measure => simp [intOf]; omega
            · have e2 : decide ((p.threads.length : Int) ≤ (k : Int)) = true := decide_eq_true (by omega)
              have ht1 : turns p (l.take (i + 1)) = (s, ls) := by
                rw [HTN.out]; unfold turn; dsimp only; rw [hst]
                have : lineAt p s.c k = none := by unfold lineAt; rw [List.getElem?_eq_none (by omega)]
                simp [Ex.step, this]
              have HT1 := Lib.hid ht1
              clear ht1 hsh hfl hfb hwf hst
              go_wp2
              go_roundw
              case rel => exact ⟨i + 1, vs, by omega, by go_num, hR, by rw [HT1.out]; exact hS, by rw [HT1.out]; exact hG, hsz, hne⟩
              case measure => simp [intOf]; omega
        · obtain rfl : i = l.length := by omega
          rw [List.take_length] at hS hG
          have hwf := turns_wf hp l
          have hfl := flat_len (p := p) (s := (turns p l).1) hwf.len h8 h4
          have hfb := flat_bad (p := p) (s := (turns p l).1) hwf.len h8 h4
          have hbad : (g (flat p (turns p l).1) ((flat p (turns p l).1).length - 1) == 1) = (turns p l).1.bad := by
            rw [hfl, Nat.add_sub_cancel, hfb]; cases (turns p l).1.bad <;> rfl
          go_wp2_with fail
          refine (refBad_walk _ (flat p (turns p l).1) wr hS.reads (by omega) (by omega)).mono ?_
          rintro e wx ⟨rfl, rfl⟩
          rw [hbad]
          clear hfb hbad
          go_wp2
          go_returns
          exact ⟨_, _, by rw [HF.out]; rfl, by rw [HF.out, HN.out]; exact OwnG.base hG (by omega), by rw [HN.out]; exact hR.below⟩
    · have hF : followF p l = ([], false, 270) := by unfold followF; rw [if_neg (fun hh => hl2 hh.2)]
      have HF := Lib.hid hF
      clear hF
      go_wp2
      go_returns
      exact ⟨_, [], by rw [HF.out]; rfl, by rw [HF.out]; exact OwnG.nil _ _, by rw [HN.out]; exact hR2.below⟩
  · have hF : followF p l = ([], false, 270) := by unfold followF; rw [if_neg (fun hh => hp hh.1)]
    have HF := Lib.hid hF
    clear hF
    have hp' : check p = false := by simpa using hp
    go_wp2
    go_returns
    exact ⟨_, [], by rw [HF.out]; rfl, by rw [HF.out]; exact OwnG.nil _ _, by rw [HN.out]; exact hR2.below⟩
end Go.Proofs.Ytmpgjnindbklaaa
