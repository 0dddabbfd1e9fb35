import Derived.Test.YtmpgjnindbklaaaEMets
import Derived.Test.YtmpgjnindbklaaaERFirst
/-! What Explore tells, plainly: round by round over the states. -/
namespace Go.Proofs.Ytmpgjnindbklaaa.Ex
open Go.Proofs.Ytmpgjnindbklaaa

/-- Each state but the first was come to from one ahead of it, by a thread that is. -/
def Lnk (p : Lt) (l : List Met) : Prop := ∀ k, k < l.length → (l.getD k default).fr < k ∧ (0 ≤ (l.getD k default).fr ∨ (l.getD k default).fr = -1) ∧ (0 ≤ (l.getD k default).fr → 0 ≤ (l.getD k default).by' ∧ (l.getD k default).by' < (p.threads.length : Int))

theorem Lnk.push {p : Lt} {l : List Met} (h : Lnk p l) {i k : Nat} (hi : i < l.length) (hk : k < p.threads.length) (s : St) : Lnk p (l ++ [⟨s, i, k⟩]) := by
  intro j hj
  by_cases hjl : j < l.length
  · have e : (l ++ [(⟨s, i, k⟩ : Met)]).getD j default = l.getD j default := by simp [List.getD_eq_getElem?_getD, List.getElem?_append_left hjl]
    rw [e]; exact h j hjl
  · have hjl' : j = l.length := by simp at hj; omega
    subst hjl'
    have e : (l ++ [(⟨s, i, k⟩ : Met)]).getD l.length default = ⟨s, i, k⟩ := by simp [List.getD_eq_getElem?_getD]
    rw [e]
    dsimp only
    exact ⟨by omega, .inl (by omega), fun _ => ⟨by omega, by omega⟩⟩
theorem one_lnk {p : Lt} {i k : Nat} {l l' : List Met} (h : Lnk p l) (hi : i < l.length) (hk : k < p.threads.length) (ho : one p i l k = some l') : Lnk p l' ∧ l.length ≤ l'.length := by
  unfold one at ho
  split at ho
  · cases ho; exact ⟨h, Nat.le_refl _⟩
  · split at ho
    · cases ho; exact ⟨h, Nat.le_refl _⟩
    · split at ho
      · cases ho
      · cases ho; exact ⟨h.push hi hk _, by simp⟩
theorem from_lnk {p : Lt} {i : Nat} : ∀ (n k : Nat) {l l' : List Met}, Lnk p l → i < l.length → k + n ≤ p.threads.length → from' p i l k n = some l' → Lnk p l' ∧ l.length ≤ l'.length
  | 0, _, l, l', h, _, _, ho => by cases ho; exact ⟨h, Nat.le_refl _⟩
  | n + 1, k, l, l', h, hi, hk, ho => by
    unfold from' at ho
    cases h1 : one p i l k with
    | none => rw [h1] at ho; cases ho
    | some l1 =>
      rw [h1] at ho
      obtain ⟨h2, h3⟩ := one_lnk h hi (by omega) h1
      obtain ⟨h4, h5⟩ := from_lnk n (k + 1) h2 (by omega) (by omega) ho
      exact ⟨h4, by omega⟩
theorem goesOn_lnk {p : Lt} : ∀ (n i : Nat) {l l' : List Met}, Lnk p l → goesOn p n i l = some l' → Lnk p l' ∧ l.length ≤ l'.length
  | 0, _, l, l', h, ho => by cases ho; exact ⟨h, Nat.le_refl _⟩
  | n + 1, i, l, l', h, ho => by
    unfold goesOn at ho
    by_cases hi : i < l.length
    · rw [if_pos hi] at ho
      cases h1 : from' p i l 0 p.threads.length with
      | none => rw [h1] at ho; cases ho
      | some l1 =>
        rw [h1] at ho
        obtain ⟨h2, h3⟩ := from_lnk _ 0 h hi (by omega) h1
        obtain ⟨h4, h5⟩ := goesOn_lnk n (i + 1) h2 ho
        exact ⟨h4, by omega⟩
    · rw [if_neg hi] at ho; cases ho; exact ⟨h, Nat.le_refl _⟩
theorem goes_lnk {p : Lt} {l : List Met} (h : goes p = some l) : Lnk p l :=
  (goesOn_lnk _ _ (fun k hk => by
    have hk' : k = 0 := by simp at hk; omega
    subst hk'
    have e : [(⟨first p, -1, -1⟩ : Met)].getD 0 default = ⟨first p, -1, -1⟩ := rfl
    rw [e]
    exact ⟨by simp, .inr rfl, fun h => absurd h (by simp)⟩) h).1

/-- Enough rounds. -/
theorem back_enough {p : Lt} {l : List Met} (h : Lnk p l) : ∀ (n m k : Nat), k < l.length → k < n → k < m → back l n k = back l m k
  | 0, _, _, _, hn, _ => absurd hn (by omega)
  | _ + 1, 0, _, _, _, hm => absurd hm (by omega)
  | n + 1, m + 1, k, hk, hn, hm => by
    obtain ⟨h1, h2, _⟩ := h k hk
    unfold back
    simp only [Int.toNat_natCast]
    by_cases hf : (l.getD k default).fr ≥ 0
    · rw [if_pos hf, if_pos hf]
      obtain ⟨j, hj⟩ := Int.eq_ofNat_of_zero_le hf
      have e : (l.getD k default).fr = ((j : Nat) : Int) := hj
      rw [e] at h1 ⊢
      rw [back_enough h n m j (by omega) (by omega) (by omega)]
    · rw [if_neg hf, if_neg hf]
/-- The turns back from a state. -/
def backs (l : List Met) (k : Nat) : List Int := back l (k + 1) k
theorem backs_stop {l : List Met} {k : Nat} (hf : ¬ (l.getD k default).fr ≥ 0) : backs l k = [] := by
  unfold backs back
  simp only [Int.toNat_natCast]
  rw [if_neg hf]
theorem backs_go {p : Lt} {l : List Met} (h : Lnk p l) {k j : Nat} (hk : k < l.length) (hf : (l.getD k default).fr = (j : Int)) : j < k ∧ backs l k = (l.getD k default).by' :: backs l j := by
  have h1 := (h k hk).1
  refine ⟨by omega, ?_⟩
  unfold backs
  conv => lhs; unfold back
  simp only [Int.toNat_natCast]
  rw [if_pos (by omega), hf, back_enough h k (j + 1) j (by omega) (by omega) (by omega)]
theorem backs_len {p : Lt} {l : List Met} (h : Lnk p l) : ∀ k, k < l.length → (backs l k).length ≤ k := by
  intro k
  induction k using Nat.strongRecOn with
  | _ k ih =>
    intro hk
    by_cases hf : (l.getD k default).fr ≥ 0
    · obtain ⟨j, hj⟩ := Int.eq_ofNat_of_zero_le hf
      obtain ⟨h1, h2⟩ := backs_go h hk (j := j) hj
      rw [h2]
      have := ih j h1 (by omega)
      simp; omega
    · rw [backs_stop hf]; simp

def ends (p : Lt) (l : List Met) (i : Nat) : Nat := ((l.take i).filter fun m => over p m.s).length
def anyBad (l : List Met) (i : Nat) : Bool := (l.take i).any (·.s.bad)
def trail (l : List Met) (i : Nat) : List Int :=
  match (l.take i).findIdx? (·.s.bad) with
  | none => []
  | some j => (backs l j).reverse
theorem take_next {l : List Met} {i : Nat} (h : i < l.length) : l.take (i + 1) = l.take i ++ [l.getD i default] := by
  rw [List.take_add_one, List.getElem?_eq_getElem h]
  simp [List.getD_eq_getElem?_getD, h]
theorem ends_next {p : Lt} {l : List Met} {i : Nat} (h : i < l.length) : ends p l (i + 1) = ends p l i + if over p (l.getD i default).s then 1 else 0 := by
  unfold ends
  rw [take_next h, List.filter_append, List.length_append]
  refine congrArg _ ?_
  generalize l.getD i default = m
  by_cases ho : over p m.s = true <;> simp [List.filter, ho]
theorem ends_le (p : Lt) (l : List Met) (i : Nat) : ends p l i ≤ l.length := by
  unfold ends
  have h1 := List.length_filter_le (fun m : Met => over p m.s) (l.take i)
  have h2 : (l.take i).length ≤ l.length := by simp; omega
  omega
theorem anyBad_next {l : List Met} {i : Nat} (h : i < l.length) : anyBad l (i + 1) = (anyBad l i || (l.getD i default).s.bad) := by
  unfold anyBad
  rw [take_next h, List.any_append]
  simp
theorem trail_stay {l : List Met} {i : Nat} (h : i < l.length) (hb : (l.getD i default).s.bad = false ∨ anyBad l i = true) : trail l (i + 1) = trail l i := by
  unfold trail
  rw [take_next h, List.findIdx?_append]
  cases h1 : (l.take i).findIdx? (·.s.bad) with
  | some j => rfl
  | none =>
    have hn : anyBad l i = false := by
      unfold anyBad
      rw [List.findIdx?_eq_none_iff] at h1
      rw [List.any_eq_false]
      intro x hx; simpa using h1 x hx
    rcases hb with hb | hb
    · simp [List.findIdx?_cons, -List.getD_eq_getElem?_getD, hb]
    · rw [hn] at hb; cases hb
theorem trail_none {l : List Met} {i : Nat} (hb : anyBad l i = false) : trail l i = [] := by
  unfold trail
  have h1 : (l.take i).findIdx? (·.s.bad) = none := by
    rw [List.findIdx?_eq_none_iff]
    unfold anyBad at hb
    rw [List.any_eq_false] at hb
    intro x hx; simpa using hb x hx
  rw [h1]
theorem trail_new {l : List Met} {i : Nat} (h : i < l.length) (hb : (l.getD i default).s.bad = true) (hn : anyBad l i = false) : trail l (i + 1) = (backs l i).reverse := by
  unfold trail
  have h1 : (l.take i).findIdx? (·.s.bad) = none := by
    rw [List.findIdx?_eq_none_iff]
    unfold anyBad at hn
    rw [List.any_eq_false] at hn
    intro x hx; simpa using hn x hx
  rw [take_next h, List.findIdx?_append, h1]
  simp [List.findIdx?_cons, -List.getD_eq_getElem?_getD, hb, Nat.min_eq_left (Nat.le_of_lt h)]
theorem told_is {p : Lt} {l : List Met} (h : Lnk p l) : told p l = ⟨l.length, ends p l l.length, anyBad l l.length, trail l l.length⟩ := by
  unfold told ends anyBad trail
  rw [List.take_length]
  congr 1
  cases h1 : l.findIdx? (·.s.bad) with
  | none => rfl
  | some j =>
    have hj : j < l.length := (List.findIdx?_eq_some_iff_getElem.1 h1).1
    simp only [backs]
    rw [back_enough h (l.length + 1) (j + 1) j hj (by omega) (by omega)]

/-- What Explore answers. -/
def exploreF (p : Lt) : Fd × Int :=
  if check p then match goes p with
    | some l => (told p l, 0)
    | none => (⟨0, 0, false, []⟩, 271)
  else (⟨0, 0, false, []⟩, 270)
end Go.Proofs.Ytmpgjnindbklaaa.Ex
namespace Go.Proofs.Ytmpgjnindbklaaa
open Go.RowKit BA Ex

/-- A met state's cells, all of them. -/
theorem mets_row {w : World} {base : Nat} {b cap : Nat} {l : List Ex.Met} (h : OwnS w base 31 (.slice (some ⟨b, 0, none⟩) l.length cap) l.length (flatM l)) (hl : ∀ m ∈ l, m.s.c.length = 28) {i : Nat} (hi : i < l.length) :
    w.rangeAt b (i * 31) (metC (l.getD i default)) := by
  intro j u hj
  have hm : (l.getD i default).s.c.length = 28 := by
    have e : l.getD i default = l[i] := by simp [List.getD_eq_getElem?_getD, hi]
    rw [e]; exact hl _ (List.getElem_mem hi)
  have hj' : j < 31 := by have := (List.getElem?_eq_some_iff.1 hj).1; rw [metC_len hm] at this; exact this
  obtain ⟨te, h⟩ := h
  have := h.cells (g := b) rfl (i * 31 + j) u (by rw [flatM_get hl hi hj']; exact hj)
  rw [Addr.add_lit] at this
  simpa using this

/-- What Explore's rounds keep: the little program's box N, what is told in block F. -/
structure RExp (w wr : World) (N F : Nat) (sw st lv tv : Value) (p : Lt) (l : List Ex.Met) (e : Nat) (b : Bool) (xs : List Int) : Prop where
  chk : RChk w wr N sw st p
  lt : N + 1 < F
  res : wr.heap[N + 1]? = some (.cells #[.int .i64 0, .int .i64 0, .bool false, .slice none 0 0] 30 (0, 0))
  f : wr.heap[F]? = some (.cells #[.int .i64 l.length, .int .i64 e, .bool b, tv] 30 (0, 0))
  own : OwnS wr (F + 1) 1 tv xs.length (ints xs)
  mets : OwnS wr (N + 2) 31 lv l.length (flatM l)
  lvb : ∀ k, lv.ownBlock = some k → k < F
namespace RExp
variable {w wr : World} {N F : Nat} {sw st lv tv : Value} {p : Lt} {l : List Ex.Met} {e : Nat} {b : Bool} {xs : List Int}
theorem ltw (h : RExp w wr N F sw st lv tv p l e b xs) : F < wr.heap.size := by have := h.f; rw [Array.getElem?_eq_some_iff] at this; exact this.1
theorem c1 (h : RExp w wr N F sw st lv tv p l e b xs) : wr.cell? ⟨F, 1, none⟩ = some (.int .i64 e) := by simp [World.cell?, h.f]
theorem c2 (h : RExp w wr N F sw st lv tv p l e b xs) : wr.cell? ⟨F, 2, none⟩ = some (.bool b) := by simp [World.cell?, h.f]
theorem c3 (h : RExp w wr N F sw st lv tv p l e b xs) : wr.cell? ⟨F, 3, none⟩ = some tv := by simp [World.cell?, h.f]
theorem free (h : RExp w wr N F sw st lv tv p l e b xs) (j : Nat) : wr.frozen? ⟨F, j, none⟩ = false := by simp [World.frozen?, h.f]
theorem more {w' : World} (h : RExp w wr N F sw st lv tv p l e b xs) (hb : Below wr.heap.size wr w') : RExp w w' N F sw st lv tv p l e b xs :=
  have hl := h.ltw
  have h1 := h.lt
  ⟨h.chk.more hb, h.lt, (hb.block _ (by omega)).trans h.res, (hb.block _ hl).trans h.f, h.own.kept (grown_below hb) (ownS_fresh h.own (fun k hk => by cases hk)), h.mets.kept (grown_below hb) (ownS_fresh h.mets (fun k hk => by cases hk)), h.lvb⟩
/-- A store into what is told. -/
theorem put {w' : World} {e' : Nat} {b' : Bool} (h : RExp w wr N F sw st lv tv p l e b xs) (h0 : PHas w sw st p) (hN : w.heap.size = N) (hg : wr.grownBy w' (some F)) (hf : w'.heap[F]? = some (.cells #[.int .i64 l.length, .int .i64 e', .bool b', tv] 30 (0, 0))) : RExp w w' N F sw st lv tv p l e' b' xs := by
  have hl := h.ltw
  have h1 := h.lt
  refine ⟨h.chk.grown h0 hN hg (fun k hk => by cases hk; omega), h.lt, (hg.block _ (by omega) (by simp; omega)).trans h.res, hf, h.own.kept hg ?_, h.mets.kept hg ?_, h.lvb⟩
  · cases hv : tv.ownBlock with
    | none => exact .inl rfl
    | some k => refine .inr fun e => ?_; have := (h.own.blk k hv).1; cases e; omega
  · cases hv : lv.ownBlock with
    | none => exact .inl rfl
    | some k => refine .inr fun e => ?_; have := h.lvb k hv; cases e; omega
/-- The turns turned, or grown. -/
theorem turn {w' : World} (h : RExp w wr N F sw st lv tv p l e b xs) (h0 : PHas w sw st p) (hN : w.heap.size = N) (hg : wr.grownBy w' tv.ownBlock) :
    RChk w w' N sw st p ∧ w'.heap[N + 1]? = some (.cells #[.int .i64 0, .int .i64 0, .bool false, .slice none 0 0] 30 (0, 0)) ∧ w'.heap[F]? = some (.cells #[.int .i64 l.length, .int .i64 e, .bool b, tv] 30 (0, 0)) ∧ OwnS w' (N + 2) 31 lv l.length (flatM l) := by
  have hl := h.ltw
  have h1 := h.lt
  have hb : ∀ k, tv.ownBlock = some k → F < k := fun k hk => by have := (h.own.blk k hk).1; omega
  refine ⟨h.chk.grown h0 hN hg (fun k hk => by have := hb k hk; omega), (hg.block _ (by omega) (fun e => by have := hb _ e.symm; omega)).trans h.res, (hg.block _ hl (fun e => by have := hb _ e.symm; omega)).trans h.f, h.mets.kept hg ?_⟩
  cases hv : lv.ownBlock with
  | none => exact .inl rfl
  | some k => refine .inr fun e => ?_; have h3 := h.lvb k hv; have h4 := hb k e.symm; omega
/-- The turns grown by one, and told. -/
theorem grew {w' : World} {v9 : Value} {ys : List Int} (h : RExp w wr N F sw st lv tv p l e b xs) (h0 : PHas w sw st p) (hN : w.heap.size = N) (hg : wr.grownBy w' tv.ownBlock) (hv : OwnS w' (F + 1) 1 v9 ys.length (ints ys)) :
    RExp w (w'.setCell ⟨F, 3, none⟩ v9) N F sw st lv v9 p l e b ys := by
  obtain ⟨r1, r2, r3, r4⟩ := h.turn h0 hN hg
  have h1 := h.lt
  have hs := grown_set w' F 3 v9
  refine ⟨r1.grown h0 hN hs (fun k hk => by cases hk; omega), h.lt, (hs.block _ (by rw [Array.getElem?_eq_some_iff] at r2; exact r2.1) (by simp; omega)).trans r2, ?_, hv.kept hs ?_, r4.kept hs ?_, h.lvb⟩
  · rw [cells_set r3]; rfl
  · cases hb : v9.ownBlock with
    | none => exact .inl rfl
    | some k => refine .inr fun e => ?_; have := (hv.blk k hb).1; cases e; omega
  · cases hb : lv.ownBlock with
    | none => exact .inl rfl
    | some k => refine .inr fun e => ?_; have := h.lvb k hb; cases e; omega
end RExp
end Go.Proofs.Ytmpgjnindbklaaa
