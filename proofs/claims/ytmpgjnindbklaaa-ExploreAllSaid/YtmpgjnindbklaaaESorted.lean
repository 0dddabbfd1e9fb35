import Derived.Test.YtmpgjnindbklaaaESort
import Derived.Test.YtmpgjnindbklaaaEKnown
import Derived.Test.YtmpgjnindbklaaaEIsEnd
import Derived.Test.YtmpgjnindbklaaaEMore
import Derived.Deep.RegionHeld3
namespace Go.Proofs.Ytmpgjnindbklaaa
open Go.RowKit BA Ex

set_option maxRecDepth 100000 in
set_option maxHeartbeats 4000000 in
theorem less_walk (av bv : Value) (a b : List Int) (w : World) (ha : Reads w av (ints a)) (hb : Reads w bv (ints b)) (hla : a.length ≤ 1000000) (hlb : b.length ≤ 1000000) :
    Calls Try.prog 51 #[av, bv] w fun e w' => e = .returned (.bool (decide (cmpL a b < 0))) ∧ Below w.heap.size w w' := by
  obtain ⟨aa, ca, rfl⟩ := ints_shape ha
  obtain ⟨ab, cb, rfl⟩ := ints_shape hb
  have HA := Lib.hid ha
  have HB := Lib.hid hb
  clear ha hb
  go_enter Try.func51, Try.ntmps51
  go_wp2_with fail
  go_loopw [5] (fun kv wr => ∃ k : Nat, k ≤ a.length ∧ k ≤ b.length ∧ kv = .int .i64 k ∧ Below w.heap.size w wr ∧ cmpL (a.drop k) (b.drop k) = cmpL a b) (fun kv _ => a.length - (intOf kv).toNat)
  case atStart => exact ⟨0, by omega, by omega, rfl, Below.refl _ _, rfl⟩
  case round =>
    obtain ⟨k, hka, hkb, rfl, hbe, hcm⟩ := hrel
    have HBE := Lib.hid hbe
    have HCM := Lib.hid hcm
    clear hbe hcm
    by_cases hla' : k < a.length
    · by_cases hlb' : k < b.length
      · have hra := reads_below HA.out HBE.out
        have hrb := reads_below HB.out HBE.out
        obtain ⟨ba, oa, ca', hva, hba⟩ := ints_form hra (by omega)
        obtain ⟨bb, ob, cb', hvb, hbb⟩ := ints_form hrb (by omega)
        cases hva
        cases hvb
        have hta := ints_at hra hla'
        have htb := ints_at hrb hlb'
        have hstep := cmpL_drop hla' hlb'
        generalize a.getD k 0 = x at hta hstep
        generalize b.getD k 0 = y at htb hstep
        have HST := Lib.hid hstep
        have HCM := Lib.hid (HCM.out)
        have e1 : decide ((k : Int) < (a.length : Int)) = true := decide_eq_true (by omega)
        have e2 : decide ((k : Int) < (b.length : Int)) = true := decide_eq_true (by omega)
        clear hstep hra hrb
        by_cases hxy : x = y
        · subst hxy
          have b1 : (x == x) = true := by simp
          have hcm2 : cmpL (a.drop (k + 1)) (b.drop (k + 1)) = cmpL a b := by
            rw [← HCM.out, HST.out, if_neg (by omega), if_neg (by omega)]
          have HCM2 := Lib.hid hcm2
          clear hcm2
          go_wp2_with fail
          go_region
          all_goals (
            go_wp2
            go_roundw
            case rel => exact ⟨k + 1, by omega, by omega, by go_num, HBE.out.trans ((Below.refl _ _).drew.mono HBE.out.size), HCM2.out⟩
            case measure => simp [intOf]; omega)
        · have b1 : (x == y) = false := by simpa using hxy
          have b2 : decide (x = y) = false := decide_eq_false hxy
          have hres : decide (x < y) = decide (cmpL a b < 0) := by
            rw [← HCM.out, HST.out]
            by_cases h : x < y
            · rw [if_pos h]; simp [h]
            · rw [if_neg h, if_pos (by omega)]; simp [h]
          have HRES := Lib.hid hres
          clear hres
          go_wp2_with fail
          go_region
          all_goals (
            go_wp2_with fail
            go_region
            all_goals (
              go_wp2
              go_ret
              exact ⟨by rw [← HRES.out]; rfl, (HBE.out.trans ((Below.refl _ _).drew.mono HBE.out.size)).drew⟩))
      · obtain rfl : k = b.length := by omega
        have e1 : decide ((b.length : Int) < (a.length : Int)) = true := decide_eq_true (by omega)
        have e2 : decide ((b.length : Int) < (b.length : Int)) = false := decide_eq_false (by omega)
        have e3 : decide ((a.length : Int) < (b.length : Int)) = false := decide_eq_false (by omega)
        have hres : decide (a.length < b.length) = decide (cmpL a b < 0) := by
          rw [← HCM.out, List.drop_length, decide_eq_false (by omega : ¬ a.length < b.length)]
          cases hd : a.drop b.length with
          | nil => rfl
          | cons => rfl
        have HRES := Lib.hid hres
        clear hres
        go_wp2
        go_ret
        exact ⟨by rw [← HRES.out]; rfl, HBE.out⟩
    · obtain rfl : k = a.length := by omega
      have e1 : decide ((a.length : Int) < (a.length : Int)) = false := decide_eq_false (by omega)
      have hres : decide (a.length < b.length) = decide (cmpL a b < 0) := by
        rw [← HCM.out, List.drop_length]
        by_cases h : a.length < b.length
        · rw [decide_eq_true h]
          cases hd : b.drop a.length with
          | nil =>
            have := congrArg List.length hd
            simp at this
            omega
          | cons => rfl
        · have : b.drop a.length = [] := List.drop_of_length_le (by omega)
          rw [this, decide_eq_false h]
          rfl
      have HRES := Lib.hid hres
      clear hres
      go_wp2
      go_ret
      exact ⟨by rw [← HRES.out]; rfl, HBE.out⟩
end Go.Proofs.Ytmpgjnindbklaaa
namespace Go.Proofs.Ytmpgjnindbklaaa
open Go.RowKit BA Ex

theorem Ex.merge_sortL (ls : List (List Int)) (h : Nat) : List.merge (sortL (ls.take h)) (sortL (ls.drop h)) leL = sortL ls := by
  refine sortL_unique ?_ ?_
  · refine List.Perm.trans (List.merge_perm_append _) ?_
    have := (sortL_perm (ls.take h)).append (sortL_perm (ls.drop h))
    rwa [List.take_append_drop] at this
  · have hs : ∀ l, (sortL l).Pairwise fun a b => leL a b = true := fun l => List.pairwise_mergeSort leL_trans leL_total l
    refine (List.pairwise_merge leL_trans leL_total _ _ (hs _) (hs _)).imp ?_
    intro a b h
    simpa [leL] using h
theorem Ex.sortL_short {ls : List (List Int)} (h : ls.length < 2) : sortL ls = ls := by
  refine (sortL_unique (List.Perm.refl _) ?_).symm
  match ls, h with
  | [], _ => exact List.Pairwise.nil
  | [_], _ => exact List.pairwise_singleton _ _
theorem Ex.sortL_len (ls : List (List Int)) : (sortL ls).length = ls.length := (sortL_perm ls).length_eq
/-- Merged so far. -/
def Ex.Mrg (A B : List (List Int)) (i j : Nat) (m : List (List Int)) : Prop := m ++ List.merge (A.drop i) (B.drop j) leL = List.merge A B leL
theorem Ex.Mrg.start (A B : List (List Int)) : Mrg A B 0 0 [] := rfl
theorem Ex.getD_cons {A : List (List Int)} {i : Nat} (h : i < A.length) : A.drop i = A.getD i [] :: A.drop (i + 1) := by
  rw [List.drop_eq_getElem_cons h]
  simp [List.getD_eq_getElem?_getD, h]
theorem Ex.Mrg.left {A B : List (List Int)} {i j : Nat} {m : List (List Int)} (h : Mrg A B i j m) (hi : i < A.length) (hj : j = B.length ∨ (j < B.length ∧ ¬ cmpL (B.getD j []) (A.getD i []) < 0)) : Mrg A B (i + 1) j (m ++ [A.getD i []]) := by
  unfold Mrg at h ⊢
  rw [← h, List.append_assoc, getD_cons hi]
  congr 1
  rcases hj with rfl | ⟨hj, hc⟩
  · simp
  · have hle : leL (A.getD i []) (B.getD j []) = true := by unfold leL; simpa using hc
    rw [getD_cons hj, List.cons_merge_cons, if_pos hle]
    rfl
theorem Ex.Mrg.right {A B : List (List Int)} {i j : Nat} {m : List (List Int)} (h : Mrg A B i j m) (hj : j < B.length) (hi : i = A.length ∨ (i < A.length ∧ cmpL (B.getD j []) (A.getD i []) < 0)) : Mrg A B i (j + 1) (m ++ [B.getD j []]) := by
  unfold Mrg at h ⊢
  rw [← h, List.append_assoc, getD_cons hj]
  congr 1
  rcases hi with rfl | ⟨hi, hc⟩
  · simp
  · have hle : ¬ leL (A.getD i []) (B.getD j []) = true := by unfold leL; simpa using hc
    rw [getD_cons hi, List.cons_merge_cons, if_neg hle]
    rfl
theorem Ex.Mrg.done {A B m : List (List Int)} (h : Mrg A B A.length B.length m) : m = List.merge A B leL := by
  unfold Mrg at h
  simpa using h
theorem Ex.Mrg.len {A B m : List (List Int)} {i j : Nat} (h : Mrg A B i j m) : m.length ≤ A.length + B.length := by
  have := congrArg List.length h
  rw [List.length_append, List.length_merge, List.length_merge] at this
  omega
/-- Parts of a grid. -/
theorem IGrid.parts {w : World} {v : Value} {ls : List (List Int)} (h : IGrid w v ls) (hp : 0 < ls.length) : ∃ b o c, v = .slice (some ⟨b, o, none⟩) ls.length c ∧ ls.length ≤ c ∧ c ≤ maxLen ∧
    ∀ i n c', i + n ≤ ls.length → 0 < n → n ≤ c' → c' ≤ maxLen → IGrid w (.slice (some ⟨b, o + i, none⟩) n c') ((ls.drop i).take n) := by
  obtain ⟨vs, hl, hr, h2⟩ := h
  rcases hr with ⟨h0, _⟩ | ⟨_, b, o, c, hv, hc1, hc2, h3⟩
  · rw [h0] at hl; simp at hl; omega
  · refine ⟨b, o, c, by rw [hv, hl], by omega, hc2, fun i n c' hin hn hc hm => ?_⟩
    refine ⟨(vs.drop i).take n, by simp; omega, .inr ⟨fun e => ?_, b, o + i, c', by simp; omega, by simp; omega, hm, fun j u hu => ?_⟩, fun k u l hu hl' => ?_⟩
    · have := congrArg List.length e
      simp at this
      omega
    · have hj : j < n := by
        have := (List.getElem?_eq_some_iff.1 hu).1
        simp at this
        omega
      rw [List.getElem?_take, if_pos hj, List.getElem?_drop] at hu
      have := h3 (i + j) u hu
      rw [Nat.add_assoc]
      exact this
    · have hj : k < n := by
        have := (List.getElem?_eq_some_iff.1 hu).1
        simp at this
        omega
      rw [List.getElem?_take, if_pos hj, List.getElem?_drop] at hu hl'
      exact h2 (i + k) u l hu hl'

/-- A grid of which nothing lies in block X. -/
def IGx (X : Nat) (w : World) (v : Value) (ls : List (List Int)) : Prop :=
  ∃ vs : List Value, vs.length = ls.length ∧ Reads w v vs ∧ (∀ (k : Nat) (u : Value) (l : List Int), vs[k]? = some u → ls[k]? = some l → Reads w u (ints l)) ∧ v.ownBlock ≠ some X ∧ ∀ u ∈ vs, u.ownBlock ≠ some X
theorem IGx.igrid {X : Nat} {w : World} {v : Value} {ls : List (List Int)} (h : IGx X w v ls) : IGrid w v ls := let ⟨vs, h1, h2, h3, _⟩ := h; ⟨vs, h1, h2, h3⟩
theorem IGx.shape {X : Nat} {w : World} {v : Value} {ls : List (List Int)} (h : IGx X w v ls) : ∃ ao c, v = .slice ao ls.length c := h.igrid.shape
theorem IGx.below {X : Nat} {w w' : World} {v : Value} {ls : List (List Int)} (h : IGx X w v ls) (hb : Below w.heap.size w w') : IGx X w' v ls :=
  let ⟨vs, h1, h2, h3, h4⟩ := h
  ⟨vs, h1, h2.same fun k _ hk => hb.block k hk, fun k u l hu hl => reads_below (h3 k u l hu hl) hb, h4⟩
/-- What changes in block X alone, and above, is nothing to it. -/
theorem IGx.kept {X : Nat} {w w' : World} {v : Value} {ls : List (List Int)} (h : IGx X w v ls) (hb : ∀ k, k < w.heap.size → k ≠ X → w'.heap[k]? = w.heap[k]?) : IGrid w' v ls :=
  let ⟨vs, h1, h2, h3, h4, h5⟩ := h
  ⟨vs, h1, h2.same fun k hk hl => hb k hl (fun e => h4 (by rw [hk, e])), fun k u l hu hl => (h3 k u l hu hl).same fun j hj hl' => hb j hl' (fun e => h5 u (List.mem_of_getElem? hu) (by rw [hj, e]))⟩
theorem IGx.at' {X : Nat} {w : World} {v : Value} {ls : List (List Int)} (h : IGx X w v ls) {k : Nat} (hk : k < ls.length) : ∃ b o c u, v = .slice (some ⟨b, o, none⟩) ls.length c ∧ w.cell? ⟨b, o + k, none⟩ = some u ∧ Reads w u (ints (ls.getD k [])) ∧ u.ownBlock ≠ some X := by
  obtain ⟨vs, hl, hr, h2, _, h5⟩ := h
  have hkv : k < vs.length := by omega
  rcases hr with ⟨h0, _⟩ | ⟨_, b, o, c, hv, _, _, h3⟩
  · rw [h0] at hkv; simp at hkv
  · refine ⟨b, o, c, vs[k], by rw [hv, hl], h3 k _ (List.getElem?_eq_getElem hkv), ?_, h5 _ (List.getElem_mem hkv)⟩
    have := h2 k vs[k] (ls[k]) (List.getElem?_eq_getElem hkv) (List.getElem?_eq_getElem hk)
    simpa [List.getD_eq_getElem?_getD, hk] using this
theorem IGx.parts {X : Nat} {w : World} {v : Value} {ls : List (List Int)} (h : IGx X w v ls) (hp : 0 < ls.length) : ∃ b o c, v = .slice (some ⟨b, o, none⟩) ls.length c ∧ ls.length ≤ c ∧ c ≤ maxLen ∧
    ∀ i n c', i + n ≤ ls.length → 0 < n → n ≤ c' → c' ≤ maxLen → IGx X w (.slice (some ⟨b, o + i, none⟩) n c') ((ls.drop i).take n) := by
  obtain ⟨vs, hl, hr, h2, h4, h5⟩ := h
  rcases hr with ⟨h0, _⟩ | ⟨_, b, o, c, hv, hc1, hc2, h3⟩
  · rw [h0] at hl; simp at hl; omega
  · refine ⟨b, o, c, by rw [hv, hl], by omega, hc2, fun i n c' hin hn hc hm => ?_⟩
    refine ⟨(vs.drop i).take n, by simp; omega, .inr ⟨fun e => ?_, b, o + i, c', by simp; omega, by simp; omega, hm, fun j u hu => ?_⟩, fun k u l hu hl' => ?_, by rw [hv] at h4; exact h4, fun u hu => h5 u (List.mem_of_mem_drop (List.mem_of_mem_take hu))⟩
    · have := congrArg List.length e
      simp at this
      omega
    · have hj : j < n := by
        have := (List.getElem?_eq_some_iff.1 hu).1
        simp at this
        omega
      rw [List.getElem?_take, if_pos hj, List.getElem?_drop] at hu
      have := h3 (i + j) u hu
      rw [Nat.add_assoc]
      exact this
    · have hj : k < n := by
        have := (List.getElem?_eq_some_iff.1 hu).1
        simp at this
        omega
      rw [List.getElem?_take, if_pos hj, List.getElem?_drop] at hu hl'
      exact h2 (i + k) u l hu hl'
theorem OwnG.igx {X : Nat} {w : World} {base : Nat} {v : Value} {vs : List Value} {ls : List (List Int)} (h : OwnG w base v vs ls) (hX : X < base) : IGx X w v ls :=
  ⟨vs, by have := h.own.len; omega, h.own.reads, fun k u l hu hl => (h.rows k u l hu hl).1.reads, fun e => by have := (h.own.blk X e).1; omega, fun u hu e => by
    obtain ⟨k, hk, he⟩ := List.getElem_of_mem hu
    have hl : k < ls.length := by have := h.own.len; omega
    have := ((h.rows k u ls[k] (by rw [← he]; exact List.getElem?_eq_getElem hk) (List.getElem?_eq_getElem hl)).1.blk X e).1
    omega⟩
end Go.Proofs.Ytmpgjnindbklaaa
namespace Go.Proofs.Ytmpgjnindbklaaa
open Go.RowKit BA Ex

/-- What is merged so far, in memory. -/
structure MO (X : Nat) (w3 wr : World) (M : Nat) (ov : Value) (mm : List (List Int)) (vs : List Value) : Prop where
  below : Below M w3 wr
  own : OwnS wr M 1 ov mm.length vs
  rows : ∀ (k : Nat) (u : Value) (x : List Int), vs[k]? = some u → mm[k]? = some x → Reads w3 u (ints x)
  off : ∀ u ∈ vs, u.ownBlock ≠ some X
  le : M ≤ wr.heap.size
namespace MO
variable {X : Nat} {w3 wr : World} {M : Nat} {ov : Value} {mm : List (List Int)} {vs : List Value}
theorem start (X : Nat) (w3 : World) : MO X w3 w3 w3.heap.size (.slice none 0 0) [] [] := ⟨Below.refl _ _, OwnS.nil _ _ _, fun k u x h => by simp at h, fun u h => by simp at h, Nat.le_refl _⟩
theorem more {w' : World} (h : MO X w3 wr M ov mm vs) (hb : Below wr.heap.size wr w') : MO X w3 w' M ov mm vs :=
  ⟨h.below.trans (hb.mono h.le), OwnS.below h.own hb, h.rows, h.off, Nat.le_trans h.le hb.size⟩
theorem push {w' : World} {u v' : Value} {x : List Int} (h : MO X w3 wr M ov mm vs) (hu : Reads w3 u (ints x)) (hux : u.ownBlock ≠ some X) (hg : wr.grownBy w' ov.ownBlock) (hv : OwnS w' M 1 v' (mm.length + 1) (vs ++ [u])) : MO X w3 w' M v' (mm ++ [x]) (vs ++ [u]) := by
  have hl : vs.length = mm.length := by have := h.own.len; omega
  refine ⟨h.below.grown hg h.le (fun k hk => (h.own.blk k hk).1), by rw [List.length_append]; exact hv, fun k u' x' hu' hx' => ?_, fun u' hu' => by
    rcases List.mem_append.1 hu' with h1 | h1
    · exact h.off u' h1
    · simp only [List.mem_singleton] at h1; subst h1; exact hux, Nat.le_trans h.le hg.size⟩
  by_cases hk : k < vs.length
  · rw [List.getElem?_append_left hk] at hu'
    rw [List.getElem?_append_left (by omega)] at hx'
    exact h.rows k u' x' hu' hx'
  · rw [List.getElem?_append_right (by omega)] at hu' hx'
    rw [hl] at hu'
    cases hkk : k - mm.length with
    | zero =>
      rw [hkk] at hu' hx'
      simp only [List.getElem?_cons_zero, Option.some.injEq] at hu' hx'
      subst hu' hx'
      exact hu
    | succ n => rw [hkk] at hu'; simp at hu'
theorem grid (h : MO X w3 wr M ov mm vs) (hM : w3.heap.size = M) (hX : X < M) : IGx X wr ov mm :=
  ⟨vs, by have := h.own.len; omega, OwnS.reads h.own, fun k u x hu hx => reads_below (h.rows k u x hu hx) (by rw [hM]; exact h.below), fun e => by have := (h.own.blk X e).1; omega, h.off⟩
end MO

/-- What 'sorted' answers. -/
def SortedC (X : Nat) (v : Value) (ls : List (List Int)) (w : World) : Prop :=
  Calls Try.prog 36 #[v] w fun e w' => ∃ v', e = .returned v' ∧ IGx X w' v' (sortL ls) ∧ Below w.heap.size w w'

set_option maxRecDepth 100000 in
set_option maxHeartbeats 4000000 in
theorem sorted_step (X : Nat) (v : Value) (ls : List (List Int)) (w : World) (hX : X < w.heap.size) (h : IGx X w v ls) (hn : ls.length ≤ 20000) (hr : ∀ x ∈ ls, x.length ≤ 1000000)
    (ih : ∀ (v' : Value) (ls' : List (List Int)) (w' : World), X < w'.heap.size → ls'.length < ls.length → IGx X w' v' ls' → (∀ x ∈ ls', x.length ≤ 1000000) → SortedC X v' ls' w') : SortedC X v ls w := by
  have hj : Try.prog.info? 22 = some Try.t22 := by kernel_rfl
  have HJ := Lib.hid hj
  clear hj
  unfold SortedC
  by_cases h2 : ls.length < 2
  · obtain ⟨a, c, rfl⟩ := h.shape
    have HI := Lib.hid h
    have h2i : (ls.length : Int) < 2 := by omega
    clear h ih
    go_enter Try.func36, Try.ntmps36
    go_wp2
    go_returns
    exact ⟨_, rfl, by rw [sortL_short h2]; exact HI.out, Below.refl _ _⟩
  · obtain ⟨b, o, c, rfl, hc1, hc2, hparts⟩ := h.parts (by omega)
    have h2i : ¬ (ls.length : Int) < 2 := by omega
    obtain ⟨m, hm⟩ : ∃ m : Nat, m = ls.length / 2 := ⟨_, rfl⟩
    have hm1 : 0 < m ∧ m < ls.length := by omega
    have hA := hparts 0 m c (by omega) (by omega) (by omega) hc2
    have hB := hparts m (ls.length - m) (c - m) (by omega) (by omega) (by omega) (by omega)
    rw [List.drop_zero, Nat.add_zero] at hA
    rw [List.take_of_length_le (by simp)] at hB
    have ia := ih (.slice (some ⟨b, o, none⟩) m c) (ls.take m) w.drew hX (by simp; omega) (hA.below (Below.refl _ _).drew) (fun x hx => hr x (List.mem_of_mem_take hx))
    have ib := fun w' (hb : Below w.heap.size w w') => ih (.slice (some ⟨b, o + m, none⟩) (ls.length - m) (c - m)) (ls.drop m) w' (Nat.lt_of_lt_of_le hX hb.size) (by simp; omega) (hB.below hb) (fun x hx => hr x (List.mem_of_mem_drop hx))
    unfold SortedC at ia ib
    have IA := Lib.hid ia
    have IB := Lib.hid ib
    have HM := Lib.hid hm
    have hq : IntKind.i64.wrap (Int.tdiv (ls.length : Int) 2) = (m : Int) := by
      rw [wrap_w64, Int.tdiv_eq_ediv_of_nonneg (by omega)]; unfold w64 RowKit.wrap64; omega
    have hqa : Int.tdiv (ls.length : Int) 2 = (m : Int) := by rw [Int.tdiv_eq_ediv_of_nonneg (by omega)]; omega
    have hqb : (ls.length : Int) / 2 = (m : Int) := by omega
    have hqc : ((ls.length / 2 : Nat) : Int) = (m : Int) := by omega
    have hqw : IntKind.i64.wrap (m : Int) = (m : Int) := by rw [wrap_w64]; unfold w64 RowKit.wrap64; omega
    have hB0 : Below w.heap.size w w.drew := (Below.refl _ _).drew
    clear h ih hparts hA hB ia ib hm
    go_enter Try.func36, Try.ntmps36
    go_upto_region 3 with fail
    have e1 : (0 : Int) ≤ (m : Int) := by omega
    have e2 : (m : Int) ≤ (c : Int) := by omega
    have e3 : (m : Int) ≤ (ls.length : Int) := by omega
    have e4 : ¬ c = m := by omega
    go_region_held3 (fun w' => Below w.heap.size w w') (first | exact hB3 | exact hB2 | exact hB0)
      (first
        | (go_at_call 36; (with_reducible refine IA.out.mono ?_; rintro e w2 ⟨va, rfl, hga, hba⟩; have hB2 : Below w.heap.size w w2 := hB0.trans (hba.mono hB0.size); have HGA := Lib.hid hga))
        | (go_at_call 36; (with_reducible refine (IB.out _ hB2).mono ?_; rintro e w3 ⟨vb, rfl, hgb, hbb⟩; have hB3 : Below w.heap.size w w3 := hB2.trans (hbb.mono hB2.size); have HGB := Lib.hid hgb; have HBB := Lib.hid hbb)))
    have hrA : ∀ i, ((sortL (ls.take m)).getD i []).length ≤ 1000000 := fun i => by
      by_cases hi : i < (sortL (ls.take m)).length
      · have e : (sortL (ls.take m)).getD i [] = (sortL (ls.take m))[i] := by simp [List.getD_eq_getElem?_getD, hi]
        rw [e]
        exact hr _ (List.mem_of_mem_take ((sortL_perm _).mem_iff.1 (List.getElem_mem hi)))
      · have e : (sortL (ls.take m)).getD i [] = [] := by simp [List.getD_eq_getElem?_getD, Nat.le_of_not_lt hi]
        rw [e]; simp
    have hrB : ∀ i, ((sortL (ls.drop m)).getD i []).length ≤ 1000000 := fun i => by
      by_cases hi : i < (sortL (ls.drop m)).length
      · have e : (sortL (ls.drop m)).getD i [] = (sortL (ls.drop m))[i] := by simp [List.getD_eq_getElem?_getD, hi]
        rw [e]
        exact hr _ (List.mem_of_mem_drop ((sortL_perm _).mem_iff.1 (List.getElem_mem hi)))
      · have e : (sortL (ls.drop m)).getD i [] = [] := by simp [List.getD_eq_getElem?_getD, Nat.le_of_not_lt hi]
        rw [e]; simp
    have hAl : (sortL (ls.take m)).length = m := by rw [sortL_len]; simp; omega
    have hBl : (sortL (ls.drop m)).length = ls.length - m := by rw [sortL_len]; simp
    have hms := Ex.merge_sortL ls m
    have HGA3 := Lib.hid (HGA.out.below HBB.out)
    generalize sortL (ls.take m) = A at HGA HGA3 hrA hAl hms
    generalize sortL (ls.drop m) = B at HGB hrB hBl hms
    obtain ⟨aa, ca, rfl⟩ := HGA3.out.shape
    obtain ⟨ab, cb, rfl⟩ := HGB.out.shape
    have HRA := Lib.hid hrA
    have HRB := Lib.hid hrB
    have HMS := Lib.hid hms
    have hlen : A.length + B.length ≤ 20000 := by omega
    have hO := MO.start X w3
    have hXM : X < w3.heap.size := Nat.lt_of_lt_of_le hX hB3.size
    generalize hMz : w3.heap.size = M at hO hXM
    have HXM := Lib.hid hXM
    clear hXM
    have HMZ := Lib.hid hMz
    have HB3 := Lib.hid hB3
    clear hrA hrB hAl hBl hms hMz hB3 hB2 hB0 HBB HGA IA IB hr hq hqa hqb hqc hqw e1 e2 e3 e4 hm1 hba hbb hga hgb
    go_wp2_with fail
    go_loopw [5, 6, 7] (fun ov iv jv wr => ∃ (i j : Nat) (mm : List (List Int)) (vs : List Value), i ≤ A.length ∧ j ≤ B.length ∧ iv = .int .i64 i ∧ jv = .int .i64 j ∧ mm.length = i + j ∧ Mrg A B i j mm ∧ MO X w3 wr M ov mm vs) (fun _ iv jv _ => A.length + B.length - (intOf iv).toNat - (intOf jv).toNat)
    case atStart => exact ⟨0, 0, [], [], by omega, by omega, rfl, rfl, rfl, Mrg.start A B, hO⟩
    case round =>
      clear hO
      obtain ⟨i, j, mm, vs, hiA, hjB, rfl, rfl, hml, hM, hO⟩ := hrel
      have HM' := Lib.hid hM
      have HO := Lib.hid hO
      have n1 : mm.length + 1 ≤ maxLen := by unfold maxLen; omega
      have n2 : (mm.length + 1) * 24 ≤ 140737488355328 := by omega
      have N1 := Lib.hid n1
      have N2 := Lib.hid n2
      have hbw : Below w3.heap.size w3 wr := by rw [HMZ.out]; exact hO.below
      have HBW := Lib.hid hbw
      clear hM hO n1 n2 hbw
      by_cases hi : i < A.length
      · by_cases hj : j < B.length
        · obtain ⟨ba, oa, ca', ua, hva, hca, hra, hrx⟩ := HGA3.out.at' hi
          cases hva
          obtain ⟨ra, rc, rfl⟩ := ints_shape hra
          have HRU := Lib.hid hra
          have HRUX := Lib.hid hrx
          clear hrx
          have hxa := cell_keep HBW.out hca
          have hii : (i : Int) < (A.length : Int) := by omega
          clear hra hca
          generalize hla : (A.getD i []).length = la at hxa HRU HRUX
          have HLA := Lib.hid hla
          clear hla
          obtain ⟨bb, ob, cb', ub, hvb, hcb, hrb, hrbx⟩ := HGB.out.at' hj
          cases hvb
          obtain ⟨rb, rcb, rfl⟩ := ints_shape hrb
          have HRV := Lib.hid hrb
          have HRVX := Lib.hid hrbx
          clear hrbx
          have hxb := cell_keep HBW.out hcb
          have hjj : (j : Int) < (B.length : Int) := by omega
          clear hrb hcb
          generalize hlb : (B.getD j []).length = lb at hxb HRV HRVX
          have HLB := Lib.hid hlb
          clear hlb
          have e1 : decide ((i : Int) < (A.length : Int)) = true := decide_eq_true (by omega)
          have e2 : decide ((j : Int) < (B.length : Int)) = true := decide_eq_true (by omega)
          have e3 : decide ((j : Int) = (B.length : Int)) = false := decide_eq_false (by omega)
          have e4 : ((j : Int) == (B.length : Int)) = false := by simp; omega
          have hB0 : Below wr.heap.size wr wr.drew := (Below.refl _ _).drew
          have hls := less_walk (.slice rb lb rcb) (.slice ra la rc) (B.getD j []) (A.getD i []) wr.drew (reads_below HRV.out (HBW.out.trans (hB0.mono HBW.out.size))) (reads_below HRU.out (HBW.out.trans (hB0.mono HBW.out.size))) (HRB.out j) (HRA.out i)
          by_cases hc : cmpL (B.getD j []) (A.getD i []) < 0
          · rw [decide_eq_true hc] at hls
            have HLS := Lib.hid hls
            have HB0 := Lib.hid hB0
            clear hls hB0
            go_wp2_with fail
            go_region_held3 (fun w' => w'.cell? ⟨ba, oa + i, none⟩ = some (.slice ra la rc) ∧ w'.cell? ⟨bb, ob + j, none⟩ = some (.slice rb lb rcb)) (go_keep)
              (first | (go_at_call 51; (refine HLS.out.mono ?_; rintro e w5 ⟨rfl, hbl⟩; have y0 := cell_keep hbl hxa; have y1 := cell_keep hbl hxb)))
            have hb5 := HB0.out.trans (hbl.mono HB0.out.size)
            have hO5 := HO.out.more hb5
            have hx5 := cell_keep hb5 hxb
            have hO6 := hO5.more ((Below.refl _ _).alloc (Nat.le_refl _) (.cells #[.slice rb lb rcb] 22 (0, 0)))
            have HO6 := Lib.hid hO6
            have HOW := Lib.hid hO6.own
            have HRD := Lib.hid (reads_cell1' w5 (.slice rb lb rcb) 22)
            have n5 := hO6.le
            clear hO5 hO6
            go_wp2_with (at_builtin; refine wpList_append_reads _ rfl (.tmp 65) (.tmp 70) 38 rfl M 22 Try.t22 (.slice none 0 0) 24 Try.underlying38 HJ.out rfl rfl rfl rfl u5 mm.length vs rfl HOW.out (.slice (some ⟨w5.heap.size, 0, none⟩) 1 1) [.slice rb lb rcb] rfl HRD.out (slice_one' _ _ _) N1.out N2.out n5 ?_; intro v8 w8 hv8 hg8 hob8)
            go_roundw
            case rel => exact ⟨i, j + 1, mm ++ [B.getD j []], vs ++ [.slice rb lb rcb], by omega, by omega, rfl, by go_num, by simp; omega, HM'.out.right hj (.inr ⟨hi, hc⟩), HO6.out.push HRV.out HRVX.out hg8 hv8⟩
            case measure => simp [intOf]; omega
          · rw [decide_eq_false hc] at hls
            have HLS := Lib.hid hls
            have HB0 := Lib.hid hB0
            clear hls hB0
            go_wp2_with fail
            go_region_held3 (fun w' => w'.cell? ⟨ba, oa + i, none⟩ = some (.slice ra la rc) ∧ w'.cell? ⟨bb, ob + j, none⟩ = some (.slice rb lb rcb)) (go_keep)
              (first | (go_at_call 51; (refine HLS.out.mono ?_; rintro e w5 ⟨rfl, hbl⟩; have y0 := cell_keep hbl hxa; have y1 := cell_keep hbl hxb)))
            have hb5 := HB0.out.trans (hbl.mono HB0.out.size)
            have hO5 := HO.out.more hb5
            have hx5 := cell_keep hb5 hxa
            have hO6 := hO5.more ((Below.refl _ _).alloc (Nat.le_refl _) (.cells #[.slice ra la rc] 22 (0, 0)))
            have HO6 := Lib.hid hO6
            have HOW := Lib.hid hO6.own
            have HRD := Lib.hid (reads_cell1' w5 (.slice ra la rc) 22)
            have n5 := hO6.le
            clear hO5 hO6
            go_wp2_with (at_builtin; refine wpList_append_reads _ rfl (.tmp 56) (.tmp 61) 38 rfl M 22 Try.t22 (.slice none 0 0) 24 Try.underlying38 HJ.out rfl rfl rfl rfl u5 mm.length vs rfl HOW.out (.slice (some ⟨w5.heap.size, 0, none⟩) 1 1) [.slice ra la rc] rfl HRD.out (slice_one' _ _ _) N1.out N2.out n5 ?_; intro v8 w8 hv8 hg8 hob8)
            go_roundw
            case rel => exact ⟨i + 1, j, mm ++ [A.getD i []], vs ++ [.slice ra la rc], by omega, by omega, by go_num, rfl, by simp; omega, HM'.out.left hi (.inr ⟨hj, by omega⟩), HO6.out.push HRU.out HRUX.out hg8 hv8⟩
            case measure => simp [intOf]; omega
        · obtain rfl : j = B.length := by omega
          obtain ⟨ba, oa, ca', ua, hva, hca, hra, hrx⟩ := HGA3.out.at' hi
          cases hva
          obtain ⟨ra, rc, rfl⟩ := ints_shape hra
          have HRU := Lib.hid hra
          have HRUX := Lib.hid hrx
          clear hrx
          have hxa := cell_keep HBW.out hca
          have hii : (i : Int) < (A.length : Int) := by omega
          clear hra hca
          generalize hla : (A.getD i []).length = la at hxa HRU HRUX
          have HLA := Lib.hid hla
          clear hla
          have e1 : decide ((i : Int) < (A.length : Int)) = true := decide_eq_true (by omega)
          have e2 : decide ((B.length : Int) < (B.length : Int)) = false := decide_eq_false (by omega)
          have e3 : decide ((B.length : Int) = (B.length : Int)) = true := decide_eq_true (by omega)
          have e4 : ((B.length : Int) == (B.length : Int)) = true := by simp
          have hb5 : Below wr.heap.size wr wr.drew := (Below.refl _ _).drew
          go_wp2_with fail
          go_region
          have hO5 := HO.out.more hb5
          have hx5 := cell_keep hb5 hxa
          have hO6 := hO5.more ((Below.refl _ _).alloc (Nat.le_refl _) (.cells #[.slice ra la rc] 22 (0, 0)))
          have HO6 := Lib.hid hO6
          have HOW := Lib.hid hO6.own
          have HRD := Lib.hid (reads_cell1' wr.drew (.slice ra la rc) 22)
          have n5 := hO6.le
          clear hO5 hO6
          go_wp2_with (at_builtin; refine wpList_append_reads _ rfl (.tmp 56) (.tmp 61) 38 rfl M 22 Try.t22 (.slice none 0 0) 24 Try.underlying38 HJ.out rfl rfl rfl rfl u5 mm.length vs rfl HOW.out (.slice (some ⟨wr.drew.heap.size, 0, none⟩) 1 1) [.slice ra la rc] rfl HRD.out (slice_one' _ _ _) N1.out N2.out n5 ?_; intro v8 w8 hv8 hg8 hob8)
          go_roundw
          case rel => exact ⟨i + 1, B.length, mm ++ [A.getD i []], vs ++ [.slice ra la rc], by omega, by omega, by go_num, rfl, by simp; omega, HM'.out.left hi (.inl rfl), HO6.out.push HRU.out HRUX.out hg8 hv8⟩
          case measure => simp [intOf]; omega
      · by_cases hj : j < B.length
        · obtain rfl : i = A.length := by omega
          obtain ⟨bb, ob, cb', ub, hvb, hcb, hrb, hrbx⟩ := HGB.out.at' hj
          cases hvb
          obtain ⟨rb, rcb, rfl⟩ := ints_shape hrb
          have HRV := Lib.hid hrb
          have HRVX := Lib.hid hrbx
          clear hrbx
          have hxb := cell_keep HBW.out hcb
          have hjj : (j : Int) < (B.length : Int) := by omega
          clear hrb hcb
          generalize hlb : (B.getD j []).length = lb at hxb HRV HRVX
          have HLB := Lib.hid hlb
          clear hlb
          have e1 : decide ((A.length : Int) < (A.length : Int)) = false := decide_eq_false (by omega)
          have e2 : decide ((j : Int) < (B.length : Int)) = true := decide_eq_true (by omega)
          have e3 : decide ((j : Int) = (B.length : Int)) = false := decide_eq_false (by omega)
          have e4 : ((j : Int) == (B.length : Int)) = false := by simp; omega
          have hb5 : Below wr.heap.size wr wr.drew := (Below.refl _ _).drew
          go_wp2_with fail
          go_region
          have hO5 := HO.out.more hb5
          have hx5 := cell_keep hb5 hxb
          have hO6 := hO5.more ((Below.refl _ _).alloc (Nat.le_refl _) (.cells #[.slice rb lb rcb] 22 (0, 0)))
          have HO6 := Lib.hid hO6
          have HOW := Lib.hid hO6.own
          have HRD := Lib.hid (reads_cell1' wr.drew (.slice rb lb rcb) 22)
          have n5 := hO6.le
          clear hO5 hO6
          go_wp2_with (at_builtin; refine wpList_append_reads _ rfl (.tmp 65) (.tmp 70) 38 rfl M 22 Try.t22 (.slice none 0 0) 24 Try.underlying38 HJ.out rfl rfl rfl rfl u5 mm.length vs rfl HOW.out (.slice (some ⟨wr.drew.heap.size, 0, none⟩) 1 1) [.slice rb lb rcb] rfl HRD.out (slice_one' _ _ _) N1.out N2.out n5 ?_; intro v8 w8 hv8 hg8 hob8)
          go_roundw
          case rel => exact ⟨A.length, j + 1, mm ++ [B.getD j []], vs ++ [.slice rb lb rcb], by omega, by omega, rfl, by go_num, by simp; omega, HM'.out.right hj (.inl rfl), HO6.out.push HRV.out HRVX.out hg8 hv8⟩
          case measure => simp [intOf]; omega
        · obtain rfl : i = A.length := by omega
          obtain rfl : j = B.length := by omega
          have e1 : decide ((A.length : Int) < (A.length : Int)) = false := decide_eq_false (by omega)
          have e2 : decide ((B.length : Int) < (B.length : Int)) = false := decide_eq_false (by omega)
          have hres := HO.out.grid HMZ.out HXM.out
          rw [HM'.out.done, HMS.out] at hres
          have HRES := Lib.hid hres
          clear hres
          go_wp2
          go_returns
          exact ⟨_, rfl, HRES.out, HB3.out.trans (HBW.out.mono HB3.out.size)⟩

theorem sorted_walk (X : Nat) (n : Nat) : ∀ (v : Value) (ls : List (List Int)) (w : World), X < w.heap.size → ls.length ≤ n → ls.length ≤ 20000 → IGx X w v ls → (∀ x ∈ ls, x.length ≤ 1000000) → SortedC X v ls w := by
  induction n with
  | zero => exact fun v ls w hX h0 hn h hr => sorted_step X v ls w hX h hn hr (fun v' ls' w' hX' h1 => by omega)
  | succ n ih => exact fun v ls w hX h0 hn h hr => sorted_step X v ls w hX h hn hr (fun v' ls' w' hX' h1 h2 h3 => ih v' ls' w' hX' (by omega) (by omega) h2 h3)
end Go.Proofs.Ytmpgjnindbklaaa
