import Derived.Test.YtmpgjnindbklaaaEKnown
namespace Go.Proofs.Ytmpgjnindbklaaa
open Go.RowKit BA Ex

/-- What lies in a grid's rows is overwritten; who owns what is as it was. -/
structure Spoil (w0 w : World) (base : Nat) (v : Value) (vs : List Value) (ls : List (List Int)) : Prop where
  os : w.os = w0.os
  tape : w.tape = w0.tape
  output : w.output = w0.output
  size : w0.heap.size ≤ w.heap.size
  block : ∀ k, k < w0.heap.size → (∀ u ∈ vs, u.ownBlock ≠ some k) → w.heap[k]? = w0.heap[k]?
  own : OwnS w base 1 v ls.length vs
  rows : ∀ (k : Nat) (u : Value) (l : List Int), vs[k]? = some u → ls[k]? = some l → (∃ xs, OwnS w base 1 u l.length xs) ∧ (u.ownBlock = none ∨ u.ownBlock ≠ v.ownBlock)
theorem Spoil.first {w : World} {base : Nat} {v : Value} {vs : List Value} {ls : List (List Int)} (h : OwnG w base v vs ls) : Spoil w w base v vs ls :=
  ⟨rfl, rfl, rfl, Nat.le_refl _, fun _ _ _ => rfl, h.own, fun k u l hu hl => ⟨⟨_, (h.rows k u l hu hl).1⟩, (h.rows k u l hu hl).2⟩⟩
theorem Spoil.set {w0 w : World} {base g : Nat} {i n cap : Nat} {v x : Value} {vs : List Value} {ls : List (List Int)} (h : Spoil w0 w base v vs ls) (hu : Value.slice (some ⟨g, 0, none⟩) n cap ∈ vs) : Spoil w0 (w.setCell ⟨g, i, none⟩ x) base v vs ls := by
  have hg := grown_set w g i x
  refine ⟨hg.os.trans h.os, hg.tape.trans h.tape, hg.output.trans h.output, Nat.le_trans h.size hg.size, fun k hk hn => ?_, ?_, fun k u l hu' hl => ?_⟩
  · exact (hg.block k (Nat.lt_of_lt_of_le hk h.size) (fun e => by cases e; exact hn _ hu rfl)).trans (h.block k hk hn)
  · obtain ⟨j, hj, e⟩ := List.getElem_of_mem hu
    have hl : ls[j]? = some (ls.getD j []) := by
      have := h.own.len
      have hj' : j < vs.length := hj
      simp [List.getD_eq_getElem?_getD, show j < ls.length by omega]
    rcases (h.rows j _ _ (by rw [List.getElem?_eq_getElem hj, e]) hl).2 with h1 | h1
    · cases h1
    · exact h.own.kept hg (.inr (fun e' => h1 e'.symm))
  · obtain ⟨⟨xs, hx⟩, hne⟩ := h.rows k u l hu' hl
    refine ⟨?_, hne⟩
    by_cases hub : u.ownBlock = some g
    · obtain ⟨te, h0, h1⟩ := hx
      rcases h1 with ⟨hh, _⟩ | ⟨g', cap', cur, hv, hgb, hb, hn, hcap, hsz, ht⟩
      · subst hh; cases hub
      · subst hv
        cases hub
        exact ⟨((cur.setIfInBounds i x).toList.take (l.length * 1)), te, by simp; simp at hsz; omega, .inr ⟨g', cap', _, rfl, hgb, cells_set hb, hn, hcap, by simpa using hsz, rfl⟩⟩
    · exact ⟨xs, hx.kept hg (.inr hub)⟩
end Go.Proofs.Ytmpgjnindbklaaa
namespace Go.Proofs.Ytmpgjnindbklaaa
open Go.RowKit BA Ex

theorem Spoil.row {w0 w : World} {base : Nat} {v : Value} {vs : List Value} {ls : List (List Int)} (h : Spoil w0 w base v vs ls) {k : Nat} (hk : k < ls.length) :
    ∃ gb cap a c, v = .slice (some ⟨gb, 0, none⟩) ls.length cap ∧ w.cell? ⟨gb, k, none⟩ = some (.slice a (ls.getD k []).length c) ∧ .slice a (ls.getD k []).length c ∈ vs ∧
      ∀ j, j < (ls.getD k []).length → ∃ g, a = some ⟨g, 0, none⟩ ∧ (∃ u, w.cell? ⟨g, j, none⟩ = some u) ∧ w.frozen? ⟨g, j, none⟩ = false := by
  have hl := h.own.len
  have hv : vs[k]? = some (vs.getD k undef) := by simp [List.getD_eq_getElem?_getD, show k < vs.length by omega]
  have hx : ls[k]? = some (ls.getD k []) := by simp [List.getD_eq_getElem?_getD, hk]
  obtain ⟨⟨xs, hr⟩, _⟩ := h.rows k _ _ hv hx
  have hmem := List.mem_of_getElem? hv
  obtain ⟨te, hown⟩ := h.own
  rcases hown.2 with ⟨_, h0⟩ | ⟨g, cap, cur, hv', hg, hblk, hn, hcap, hsz, ht⟩
  · omega
  · subst hv'
    have h1 := hown.cells (g := g) rfl k _ hv
    rw [Addr.add_lit] at h1
    obtain ⟨te', hr0, hr1⟩ := hr
    rcases hr1 with ⟨hh, hlen⟩ | ⟨g', cap', cur', hv', hg', hblk', hn', hcap', hsz', ht'⟩
    · rw [hh] at h1 hmem
      refine ⟨g, cap, none, 0, rfl, by rw [hlen]; simpa using h1, by rw [hlen]; exact hmem, fun j hj => by omega⟩
    · rw [hv'] at h1 hmem
      refine ⟨g, cap, some ⟨g', 0, none⟩, cap', rfl, by simpa using h1, hmem, fun j hj => ⟨g', rfl, ?_, by simp [World.frozen?, hblk']⟩⟩
      simp only [World.cell?, hblk']
      exact ⟨cur'[j]'(by omega), by simp [show j < cur'.size by omega]⟩

set_option maxRecDepth 100000 in
set_option maxHeartbeats 4000000 in
theorem spoil_walk (v : Value) (vs : List Value) (ls : List (List Int)) (base : Nat) (w : World) (h : OwnG w base v vs ls) (hl : ls.length ≤ 1000000) (hr : ∀ k, (ls.getD k []).length ≤ 1000000) :
    Calls Try.prog 19 #[v] w fun e w' => (∃ u, e = .returned u) ∧ Spoil w w' base v vs ls := by
  have hS := Spoil.first h
  obtain ⟨av, cv, hv⟩ := h.own.reads.shape
  have hvl : vs.length = ls.length := by have := h.own.len; omega
  rw [hvl] at hv
  subst hv
  clear h
  go_enter Try.func19, Try.ntmps19
  go_wp2_with fail
  go_loopw [2] (fun iv wr => ∃ i : Nat, i ≤ ls.length ∧ iv = .int .i64 i ∧ Spoil w wr base (.slice av ls.length cv) vs ls) (fun iv _ => ls.length - (intOf iv).toNat)
  case atStart => exact ⟨0, by omega, rfl, hS⟩
  case round =>
    clear hS
    obtain ⟨i, hi, rfl, hS⟩ := hrel
    by_cases hlt : i < ls.length
    · have hili : (i : Int) < (ls.length : Int) := by omega
      go_wp2_with fail
      go_loopw [3] (fun jv wr => ∃ j : Nat, j ≤ (ls.getD i []).length ∧ jv = .int .i64 j ∧ Spoil w wr base (.slice av ls.length cv) vs ls) (fun jv _ => (ls.getD i []).length - (intOf jv).toNat)
      case atStart => exact ⟨0, by omega, rfl, hS⟩
      case round =>
        clear hS
        obtain ⟨j, hj, rfl, hS⟩ := hrel
        obtain ⟨gb, cap, a, c, hv, x0, hmem, hcl⟩ := hS.row hlt
        cases hv
        have hlr := hr i
        have HS := Lib.hid hS
        have HM := Lib.hid hmem
        have HCL := Lib.hid hcl
        clear hS hmem hcl
        generalize hm : (ls.getD i []).length = m at hj x0 hlr HM HCL
        have HMM := Lib.hid hm
        clear hm
        by_cases hlj : j < m
        · have hjm : (j : Int) < (m : Int) := by omega
          obtain ⟨g, rfl, ⟨u, x1⟩, x2⟩ := HCL.out j hlj
          go_wp2_with fail
          go_roundw
          case rel => exact ⟨j + 1, by omega, by go_num, HS.out.set HM.out⟩
          case measure => simp [intOf]; omega
        · obtain rfl : j = m := by omega
          go_wp2_with fail
          go_roundw
          case rel => exact ⟨i + 1, by omega, by go_num, HS.out⟩
          case measure => simp [intOf]; omega
    · obtain rfl : i = ls.length := by omega
      have HS := Lib.hid hS
      clear hS
      go_wp2
      go_returns
      exact ⟨⟨_, rfl⟩, HS.out⟩
end Go.Proofs.Ytmpgjnindbklaaa
namespace Go.Proofs.Ytmpgjnindbklaaa
open Go.RowKit BA Ex

set_option maxRecDepth 100000 in
set_option maxHeartbeats 4000000 in
theorem sameFound_walk (a1 a2 b1 b2 : Int) (ab bb : Bool) (av bv : Value) (xs ys : List Int) (w : World) (ha : Reads w av (ints xs)) (hb : Reads w bv (ints ys)) (hx : xs.length ≤ 1000000) :
    Calls Try.prog 12 #[.agg #[.int .i64 a1, .int .i64 a2, .bool ab, av], .agg #[.int .i64 b1, .int .i64 b2, .bool bb, bv]] w fun e w' =>
      e = .returned (.bool (a1 == b1 && a2 == b2 && ab == bb && decide (xs = ys))) ∧ Below w.heap.size w w' := by
  have hal : Below w.heap.size w ((w.alloc (.cells #[.int .i64 a1, .int .i64 a2, .bool ab, av] 30 (0, 0))).alloc (.cells #[.int .i64 b1, .int .i64 b2, .bool bb, bv] 30 (0, 0))) := ((Below.refl _ _).alloc (Nat.le_refl _) _).alloc (by simp) _
  have hra := reads_below ha hal
  have hrb := reads_below hb hal
  have HAL := Lib.hid hal
  have HRA := Lib.hid hra
  have HRB := Lib.hid hrb
  clear hal hra hrb ha hb
  obtain ⟨aa, ca, rfl⟩ := ints_shape HRA.out
  obtain ⟨ba, cb, rfl⟩ := ints_shape HRB.out
  by_cases h1 : a1 = b1
  · subst h1
    by_cases h2 : a2 = b2
    · subst h2
      by_cases h3 : ab = bb
      · subst h3
        go_enter Try.func12, Try.ntmps12
        go_wp2_with fail
        refine (ints_walk _ _ xs ys _ HRA.out HRB.out hx).mono ?_
        rintro e w9 ⟨rfl, hb9⟩
        have hb0 := HAL.out.trans (hb9.mono HAL.out.size)
        have HB0 := Lib.hid hb0
        clear hb0 hb9
        go_wp2
        go_ret
        exact ⟨by simp, HB0.out⟩
      · have e3 : (ab == bb) = false := by simpa using h3
        go_enter Try.func12, Try.ntmps12
        go_wp2
        go_ret
        exact ⟨by simp [h3], HAL.out⟩
    · have e2 : (a2 == b2) = false := by simpa using h2
      go_enter Try.func12, Try.ntmps12
      go_wp2
      go_ret
      exact ⟨by simp [h2], HAL.out⟩
  · have e1 : (a1 == b1) = false := by simpa using h1
    go_enter Try.func12, Try.ntmps12
    go_wp2
    go_ret
    exact ⟨by simp [h1], HAL.out⟩
end Go.Proofs.Ytmpgjnindbklaaa
