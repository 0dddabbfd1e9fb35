import Derived.Test.YtmpgjnindbklaaaETurnP
import Derived.Test.YtmpgjnindbklaaaEFollowsW
import Derived.Deep.RegionHeld3
namespace Go.Proofs.Ytmpgjnindbklaaa
open Go.RowKit BA Ex

/-- The values of a row, so many of them exchanged from both ends. -/
def Turnt (vs us : List Value) (k : Nat) : Prop := us.length = vs.length ∧ ∀ j, j < vs.length → us.getD j undef = if j < k ∨ vs.length - 1 - j < k then vs.getD (vs.length - 1 - j) undef else vs.getD j undef
theorem Turnt.first (vs : List Value) : Turnt vs vs 0 := ⟨rfl, fun j _ => by simp⟩
theorem Turnt.next {vs us : List Value} {k : Nat} (h : Turnt vs us k) (hk : 2 * k + 1 < vs.length) : Turnt vs ((us.set k (us.getD (vs.length - 1 - k) undef)).set (vs.length - 1 - k) (us.getD k undef)) (k + 1) := by
  obtain ⟨h1, h2⟩ := h
  refine ⟨by simpa using h1, fun j hj => ?_⟩
  have e1 := h2 k (by omega)
  have e2 := h2 (vs.length - 1 - k) (by omega)
  rw [if_neg (by omega)] at e1 e2
  rw [e1, e2]
  by_cases ha : j = vs.length - 1 - k
  · subst ha
    rw [List.getD_eq_getElem?_getD, List.getElem?_set_self (by simp; omega), if_pos (by omega)]
    show vs.getD k undef = _
    congr 1
    omega
  · rw [List.getD_eq_getElem?_getD, List.getElem?_set_ne (Ne.symm ha)]
    by_cases hb : j = k
    · subst hb
      rw [List.getElem?_set_self (by omega), if_pos (by omega)]
      rfl
    · rw [List.getElem?_set_ne (Ne.symm hb), ← List.getD_eq_getElem?_getD, h2 j hj]
      by_cases hc : j < k ∨ vs.length - 1 - j < k
      · rw [if_pos hc, if_pos (by omega)]
      · rw [if_neg hc, if_neg (by omega)]
theorem Turnt.last {vs us : List Value} (h : Turnt vs us (vs.length / 2)) : us = vs.reverse := by
  obtain ⟨h1, h2⟩ := h
  apply List.ext_getElem (by simp [h1])
  intro j hj hj'
  have hj2 : j < vs.length := by omega
  have e := h2 j hj2
  rw [List.getElem_reverse]
  have e1 : us.getD j undef = us[j] := by simp [List.getD_eq_getElem?_getD, hj]
  rw [e1] at e
  rw [e]
  split
  · have : vs.length - 1 - j < vs.length := by omega
    simp [List.getD_eq_getElem?_getD, this]
  · rename_i hn
    have : vs.length - 1 - j = j := by omega
    simp [List.getD_eq_getElem?_getD, hj2, this]
theorem OwnS.put {w : World} {base n g cap : Nat} {xs : List Value} (h : OwnS w base 1 (.slice (some ⟨g, 0, none⟩) n cap) n xs) (i : Nat) (u : Value) : OwnS (w.setCell ⟨g, i, none⟩ u) base 1 (.slice (some ⟨g, 0, none⟩) n cap) n (xs.set i u) := by
  obtain ⟨te, h0, h1⟩ := h
  rcases h1 with ⟨hh, _⟩ | ⟨g', cap', cur, hv, hg, hb, hn, hcap, hsz, ht⟩
  · cases hh
  cases hv
  refine ⟨te, by simpa using h0, .inr ⟨g, cap, _, rfl, hg, cells_set hb, hn, hcap, by simpa using hsz, ?_⟩⟩
  rw [← ht]
  simp [Array.toList_setIfInBounds, List.take_set]
theorem OwnS.cellAt1 {w : World} {base n g cap : Nat} {xs : List Value} (h : OwnS w base 1 (.slice (some ⟨g, 0, none⟩) n cap) n xs) {i : Nat} (hi : i < xs.length) : w.cell? ⟨g, i, none⟩ = some (xs.getD i undef) ∧ w.frozen? ⟨g, i, none⟩ = false := by
  obtain ⟨te, h⟩ := h
  have h1 := h.cells (g := g) rfl i (xs.getD i undef) (by simp [List.getD_eq_getElem?_getD, hi])
  rw [Addr.add_lit] at h1
  refine ⟨by simpa using h1, ?_⟩
  rcases h.2 with ⟨hh, _⟩ | ⟨g', cap', cur, hv, hg, hb, _⟩
  · cases hh
  · cases hv
    simp [World.frozen?, hb]
theorem Cops.turned {w : World} {base : Nat} {v : Value} {vs : List Value} {ts : List (List Ln)} (hrows : ∀ (k : Nat) (u : Value) (t : List Ln), vs[k]? = some u → ts[k]? = some t → OwnS w base 4 u t.length (flatLn t) ∧ (u.ownBlock = none ∨ u.ownBlock ≠ v.ownBlock)) (hl : vs.length = ts.length) (hown : OwnS w base 1 v ts.length vs.reverse) : Cops w base v vs.reverse ts.reverse := by
  refine ⟨by simpa using hown, fun k u t hu ht => ?_⟩
  have hk : k < vs.length := by have := (List.getElem?_eq_some_iff.1 hu).1; simpa using this
  rw [List.getElem?_reverse hk] at hu
  rw [List.getElem?_reverse (by omega)] at ht
  exact hrows _ u t hu (by rw [hl]; exact ht)

/-- What the exchange of rows keeps. -/
structure RTur (w wr : World) (N Q : Nat) (sw st wv qv : Value) (vs us : List Value) (p : Lt) (k : Nat) : Prop where
  chk : RChk w wr N sw st p
  box : wr.heap[Q]? = some (.cells #[wv, qv] 25 (0, 0))
  lt : N < Q
  words : OwnS wr (N + 1) 1 wv p.words.length (ints p.words)
  own : OwnS wr (N + 1) 1 qv p.threads.length us
  rows : ∀ (k : Nat) (u : Value) (t : List Ln), vs[k]? = some u → p.threads[k]? = some t → OwnS wr (N + 1) 4 u t.length (flatLn t) ∧ (u.ownBlock = none ∨ u.ownBlock ≠ qv.ownBlock)
  len : vs.length = p.threads.length
  tur : Turnt vs us k
  wq : ∀ j, wv.ownBlock = some j → qv.ownBlock ≠ some j
  qq : ∀ j, qv.ownBlock = some j → j < Q
namespace RTur
variable {w wr : World} {N Q : Nat} {sw st wv qv : Value} {vs us : List Value} {p : Lt} {k : Nat}
theorem ltw (h : RTur w wr N Q sw st wv qv vs us p k) : Q < wr.heap.size := by have := h.box; rw [Array.getElem?_eq_some_iff] at this; exact this.1
theorem more {w' : World} (h : RTur w wr N Q sw st wv qv vs us p k) (hb : Below wr.heap.size wr w') : RTur w w' N Q sw st wv qv vs us p k :=
  ⟨h.chk.more hb, (hb.block Q h.ltw).trans h.box, h.lt, OwnS.below h.words hb, OwnS.below h.own hb, fun k u t hu ht => ⟨OwnS.below (h.rows k u t hu ht).1 hb, (h.rows k u t hu ht).2⟩, h.len, h.tur, h.wq, h.qq⟩
theorem c1 (h : RTur w wr N Q sw st wv qv vs us p k) : wr.cell? ⟨Q, 1, none⟩ = some qv := by simp [World.cell?, h.box]
theorem c0 (h : RTur w wr N Q sw st wv qv vs us p k) : wr.cell? ⟨Q, 0, none⟩ = some wv := by simp [World.cell?, h.box]
/-- Each is a slice. -/
theorem shape (h : RTur w wr N Q sw st wv qv vs us p k) {j : Nat} (hj : j < p.threads.length) : ∃ a m c, us.getD j undef = .slice a m c := by
  have hv : ∀ i, i < vs.length → ∃ a m c, vs.getD i undef = .slice a m c := fun i hi => by
    have hi' : i < p.threads.length := by rw [← h.len]; exact hi
    have := (h.rows i vs[i] p.threads[i] (List.getElem?_eq_getElem hi) (List.getElem?_eq_getElem hi')).1
    obtain ⟨a, c, e⟩ := (OwnS.lines this).shape
    exact ⟨a, _, c, by rw [← e]; simp [List.getD_eq_getElem?_getD, hi]⟩
  have hl := h.len
  rw [h.tur.2 j (by omega)]
  split
  · exact hv _ (by omega)
  · exact hv _ (by omega)
/-- The two stores. -/
theorem swap {g cap : Nat} (h : RTur w wr N Q sw st wv (.slice (some ⟨g, 0, none⟩) p.threads.length cap) vs us p k) (h0 : PHas w sw st p) (hN : w.heap.size = N) (hk : 2 * k + 1 < p.threads.length) :
    RTur w ((wr.setCell ⟨g, k, none⟩ (us.getD (p.threads.length - 1 - k) undef)).setCell ⟨g, p.threads.length - 1 - k, none⟩ (us.getD k undef)) N Q sw st wv (.slice (some ⟨g, 0, none⟩) p.threads.length cap) vs ((us.set k (us.getD (p.threads.length - 1 - k) undef)).set (p.threads.length - 1 - k) (us.getD k undef)) p (k + 1) := by
  have hg1 : N + 1 ≤ g := (h.own.blk g rfl).1
  have hgQ : g < Q := h.qq g rfl
  have s1 := grown_set wr g k (us.getD (p.threads.length - 1 - k) undef)
  have s2 := grown_set (wr.setCell ⟨g, k, none⟩ (us.getD (p.threads.length - 1 - k) undef)) g (p.threads.length - 1 - k) (us.getD k undef)
  have hs := grown_trans s1 s2
  have hl := h.len
  refine ⟨h.chk.grown h0 hN hs (fun j hj => by cases hj; omega), (hs.block Q h.ltw (by simp; omega)).trans h.box, h.lt, h.words.kept hs ?_, ?_, fun k u t hu ht => ⟨(h.rows k u t hu ht).1.kept hs (h.rows k u t hu ht).2, (h.rows k u t hu ht).2⟩, h.len, ?_, h.wq, h.qq⟩
  · cases hb : wv.ownBlock with
    | none => exact .inl rfl
    | some j => exact .inr fun e => h.wq j hb (by rw [e]; rfl)
  · exact OwnS.put (OwnS.put h.own k _) _ _
  · have := h.tur.next (by omega : 2 * k + 1 < vs.length)
    rw [hl] at this
    exact this
/-- At the end. -/
theorem done (h : RTur w wr N Q sw st wv qv vs us p (p.threads.length / 2)) : PHas wr wv qv (rv p) := by
  have hl := h.len
  have hu : us = vs.reverse := (by rw [hl]; exact h.tur : Turnt vs us (vs.length / 2)).last
  have ho := h.own
  rw [hu] at ho
  exact ⟨OwnS.reads h.words, (Cops.turned h.rows h.len ho).threads⟩
end RTur

theorem rv_in {p : Lt} (h : PIn p) : PIn (rv p) := by
  refine ⟨h.words, fun k hk i hi => ?_⟩
  have hk' : k < p.threads.length := by rw [← rv_threads p]; exact hk
  have e : (rv p).threads.getD k [] = p.threads.getD (p.threads.length - 1 - k) [] := by
    have := rv_at (p := p) (k := p.threads.length - 1 - k) (by omega)
    rw [show p.threads.length - 1 - (p.threads.length - 1 - k) = k by omega] at this
    rw [List.getD_eq_getElem?_getD, List.getD_eq_getElem?_getD, this]
  rw [e] at hi ⊢
  exact h.lines _ (by omega) i hi

set_option maxRecDepth 100000 in
set_option maxHeartbeats 4000000 in
theorem turned_walk (sw st : Value) (p : Lt) (w : World) (h : PHas w sw st p) (hin : PIn p) (hw : p.words.length ≤ 281474976710656) (ht : p.threads.length ≤ 281474976710656) (htt : ∀ k, (p.threads.getD k []).length ≤ 281474976710656) :
    Calls Try.prog 4 #[.agg #[sw, st]] w fun e w' => e = .returned (.bool true) ∧ Below w.heap.size w w' := by
  have hR := RChk.begin h
  have H0 := Lib.hid h
  clear h
  go_enter Try.func4, Try.ntmps4
  go_upto_region 1 with fail
  generalize hW : w.alloc (.cells #[sw, st] 25 (0, 0)) = w1 at hR ⊢
  clear hW
  generalize hN : w.heap.size = N at hR ⊢
  have HN := Lib.hid hN
  clear hN
  go_wp2_with fail
  refine (known_walk w1).mono ?_
  rintro e w2 ⟨rfl, hb2⟩
  have hR2 := hR.more hb2
  have q0 := hR2.cell0
  have q1 := hR2.cell1
  clear hR hb2
  go_wp2_with fail
  refine (small_walk _ _ p w2 hR2.has hw ht htt).mono ?_
  rintro e w3 ⟨rfl, hb3⟩
  have hR3 := hR2.more hb3
  clear hR2 hb3 q0 q1
  cases hs : smallB p with
  | false =>
    have HR3 := Lib.hid hR3
    clear hR3 hs
    go_wp2
    go_ret
    exact ⟨rfl, by rw [HN.out]; exact HR3.out.below⟩
  | true =>
    have q0 := hR3.cell0
    have q1 := hR3.cell1
    have HS := Lib.hid hs
    have HR3 := Lib.hid hR3
    clear hR3 hs
    go_wp2_with fail
    refine (copied_walk' _ _ p w3 HR3.out.has HS.out).mono ?_
    rintro e w4 ⟨wv, qv, vs, rfl, hwv, hcp, hb4, hwq⟩
    have hlen : vs.length = p.threads.length := by have := hcp.own.len; omega
    have hN3 : N + 1 ≤ w3.heap.size := by have := HR3.out.box; rw [Array.getElem?_eq_some_iff] at this; exact this.1
    have hone := pair_one (OwnS.one hwv) (OwnS.one hcp.own)
    have hR4 := HR3.out.more hb4
    have h34 := hb4.size
    go_upto_region 6 with (refine wpList_store_row rfl 25 (.tmp 3) (.tmp 17) rfl w4.heap.size #[wv, qv] rfl rfl 25 _ (heap_alloc_new _ _) info_little rfl hone ?_)
    have hb5 : Below w4.heap.size w4 ((w4.alloc (.cells #[.slice none 0 0, .slice none 0 0] 25 (0, 0))).setRow w4.heap.size #[wv, qv]) := below_setRow ((Below.refl _ _).alloc (Nat.le_refl _) _) _ (Nat.le_refl _)
    have hT5 : RTur w ((w4.alloc (.cells #[.slice none 0 0, .slice none 0 0] 25 (0, 0))).setRow w4.heap.size #[wv, qv]) N w4.heap.size sw st wv qv vs vs p 0 :=
      ⟨hR4.more hb5, heap_setRow (heap_alloc_new _ _), by omega, ownS_base (OwnS.below hwv hb5) hN3, ownS_base (OwnS.below hcp.own hb5) hN3, fun k u t hu ht => ⟨ownS_base (OwnS.below (hcp.rows k u t hu ht).1 hb5) hN3, (hcp.rows k u t hu ht).2⟩, hlen, Turnt.first vs, hwq, fun j hj => (hcp.own.blk j hj).2⟩
    generalize (w4.alloc (.cells #[.slice none 0 0, .slice none 0 0] 25)).setRow w4.heap.size #[wv, qv] = w5 at hT5 ⊢
    generalize w4.heap.size = Q at hT5 ⊢
    clear hb5 hone hR4 hwv hcp hb4 hwq HR3 q0 q1 h34 hN3
    obtain ⟨qa, qc, hqe⟩ : ∃ a c, qv = .slice a p.threads.length c := by
      obtain ⟨a, c, e⟩ := hT5.own.reads.shape
      exact ⟨a, c, by rw [e, hlen]⟩
    subst hqe
    have hT4 : p.threads.length ≤ 400 := by have := HS.out; unfold smallB tot at this; simp at this; omega
    have x1 := hT5.c1
    have HT5 := Lib.hid hT5
    clear hT5
    go_wp2_with fail
    go_loopw [5] (fun iv wr => ∃ (k : Nat) (us : List Value), 2 * k ≤ p.threads.length ∧ iv = .int .i64 k ∧ RTur w wr N Q sw st wv (.slice qa p.threads.length qc) vs us p k) (fun iv _ => p.threads.length - (intOf iv).toNat)
    case atStart => exact ⟨0, vs, by omega, rfl, HT5.out⟩
    case round =>
      clear HT5 x1
      obtain ⟨k, us, hk2, rfl, hT⟩ := hrel
      have x1 := hT.c1
      by_cases hk : 2 * k + 1 < p.threads.length
      · obtain ⟨g', hg⟩ : ∃ g, qa = some ⟨g, 0, none⟩ := by
          obtain ⟨te, _, h1⟩ := hT.own
          rcases h1 with ⟨_, h0⟩ | ⟨g, cap, cur, hv, _⟩
          · omega
          · cases hv; exact ⟨g, rfl⟩
        subst hg
        have hul : us.length = p.threads.length := by rw [hT.tur.1, hT.len]
        obtain ⟨c1, f1⟩ := OwnS.cellAt1 hT.own (i := k) (by omega)
        obtain ⟨c2, f2⟩ := OwnS.cellAt1 hT.own (i := p.threads.length - 1 - k) (by omega)
        obtain ⟨a1, m1, d1, e1⟩ := hT.shape (j := k) (by omega)
        obtain ⟨a2, m2, d2, e2⟩ := hT.shape (j := p.threads.length - 1 - k) (by omega)
        have hsw := hT.swap H0.out HN.out hk
        rw [e1, e2] at hsw
        rw [e1] at c1
        rw [e2] at c2
        have HT := Lib.hid hT
        generalize hn : p.threads.length - 1 - k = j at c2 f2 hsw
        have HSW := Lib.hid hsw
        have hjk : j ≠ k := by omega
        have HNJ := Lib.hid hn
        clear hT hsw e1 e2 hn hul
        have hsub : (p.threads.length : Int) - 1 - (k : Int) = (j : Int) := by have := HNJ.out; omega
        have hwr1 : IntKind.i64.wrap ((p.threads.length : Int) - 1) = (p.threads.length : Int) - 1 := by rw [wrap_w64]; unfold w64 RowKit.wrap64; omega
        have hwr2 : IntKind.i64.wrap ((p.threads.length : Int) - 1 - (k : Int)) = (j : Int) := by rw [hsub, wrap_w64]; unfold w64 RowKit.wrap64; have := HNJ.out; omega
        clear hsub
        have hdec : decide ((k : Int) < (p.threads.length : Int) / 2) = true := decide_eq_true (by omega)
        have hgQ : g' < Q := HT.out.qq g' rfl
        have hgQ2 : g' ≠ Q := by omega
        have hji : (j : Int) < (p.threads.length : Int) := by have := HNJ.out; omega
        have hki : (k : Int) < (p.threads.length : Int) := by omega
        have x1d : wr.drew.cell? ⟨Q, 1, none⟩ = some (.slice (some ⟨g', 0, none⟩) p.threads.length qc) := x1
        have c2d : wr.drew.cell? ⟨g', j, none⟩ = some (.slice a2 m2 d2) := c2
        have f1d : wr.drew.frozen? ⟨g', k, none⟩ = false := f1
        have kx1 : (wr.setCell ⟨g', k, none⟩ (.slice a2 m2 d2)).drew.cell? ⟨Q, 1, none⟩ = some (.slice (some ⟨g', 0, none⟩) p.threads.length qc) := (World.cell?_setCell_other wr _ _ _ (fun e => hgQ2 (by cases e; rfl))).trans x1
        have kx2 : (wr.setCell ⟨g', k, none⟩ (.slice a2 m2 d2)).drew.cell? ⟨g', j, none⟩ = some (.slice a2 m2 d2) := (World.cell?_setCell_other wr _ _ _ (fun e => hjk (by cases e; rfl))).trans c2
        go_upto_region 11 with fail
        go_region_held3 (fun w' => w'.cell? ⟨Q, 1, none⟩ = some (.slice (some ⟨g', 0, none⟩) p.threads.length qc) ∧ w'.cell? ⟨g', j, none⟩ = some (.slice a2 m2 d2)) (first | exact ⟨kx1, kx2⟩ | go_keep) (first | fail)
        have kf2 : (wr.setCell ⟨g', k, none⟩ (.slice a2 m2 d2)).drew.frozen? ⟨g', j, none⟩ = false := by
          have := HT.out.own
          obtain ⟨_, f⟩ := OwnS.cellAt1 (OwnS.put this k (.slice a2 m2 d2)) (i := j) (by rw [List.length_set, HT.out.tur.1, HT.out.len]; omega)
          exact f
        clear x1d c2d f1d x1 c2 f1 c1 f2
        go_wp2
        go_roundw
        case rel => exact ⟨k + 1, _, by omega, by go_num, HSW.out.more (Below.refl _ _).drew⟩
        case measure => simp [intOf]; omega
      · obtain rfl : k = p.threads.length / 2 := by omega
        have hph := hT.done
        have hdec : decide (((p.threads.length / 2 : Nat) : Int) < (p.threads.length : Int) / 2) = false := decide_eq_false (by omega)
        have hR := hT.chk
        have c0 := hT.c0
        have hbox := hT.box
        have HPH := Lib.hid hph
        have HR := Lib.hid hR
        have HBX := Lib.hid hbox
        have q0 := HR.out.cell0
        have q1 := HR.out.cell1
        clear hph hR hbox hT
        go_wp2_with fail
        refine (copied_walk _ _ p wr HR.out.has HS.out).mono ?_
        rintro e w6 ⟨wv2, qv2, vs2, rfl, hwv2, hcp2, hb6⟩
        have hQ : Q < wr.heap.size := by have := HBX.out; rw [Array.getElem?_eq_some_iff] at this; exact this.1
        have HP6 := Lib.hid (⟨OwnS.reads hwv2, hcp2.threads⟩ : PHas w6 wv2 qv2 p)
        have HR6 := Lib.hid (HR.out.more hb6)
        have HQ6 := Lib.hid (HPH.out.below hb6)
        have HX6 := Lib.hid ((hb6.block Q hQ).trans HBX.out)
        have hQ6 : Q < w6.heap.size := Nat.lt_of_lt_of_le hQ hb6.size
        clear hwv2 hcp2 hb6 HPH HR HBX c0 x1 q0 q1 hQ
        obtain ⟨e1, e2, e3, e4, e5⟩ := explore_rv p
        have E1 := Lib.hid e1
        have E2 := Lib.hid e2
        have E3 := Lib.hid e3
        have E4 := Lib.hid e4
        have E5 := Lib.hid e5
        clear e1 e2 e3 e4 e5
        go_wp2_with fail
        refine (explore_walk _ _ p w6 HP6.out hin).mono ?_
        rintro e w7 ⟨v7, hb7, rfl, hv7⟩
        obtain ⟨a7, c7, e7⟩ := ints_shape hv7.reads
        subst e7
        have hvo := OwnS.one hv7
        have HR7 := Lib.hid (HR6.out.more hb7)
        have HQ7 := Lib.hid (HQ6.out.below hb7)
        have HX7 := Lib.hid ((hb7.block Q hQ6).trans HX6.out)
        have hQ7 : Q < w7.heap.size := Nat.lt_of_lt_of_le hQ6 hb7.size
        clear hv7 hb7 HR6 HQ6 HX6 HP6 hQ6
        generalize exploreF p = E at E1 E2 E3 E4 E5 hvo ⊢
        obtain ⟨⟨xs, xe, xb, xt⟩, xr⟩ := E
        dsimp only at E1 E2 E3 E4 E5 hvo ⊢
        generalize hm : xt.length = m at E5 hvo ⊢
        clear hm
        have hone := found_one xs xe xb _ hvo
        go_upto_region 14 with (refine wpList_store_row rfl 30 (.tmp 7) (.tmp 56) rfl w7.heap.size #[.int .i64 xs, .int .i64 xe, .bool xb, .slice a7 m c7] rfl rfl 30 _ (heap_alloc_new _ _) info_found rfl hone ?_)
        have hb8 : Below w7.heap.size w7 ((w7.alloc (.cells #[.int .i64 0, .int .i64 0, .bool false, .slice none 0 0] 30 (0, 0))).setRow w7.heap.size #[.int .i64 xs, .int .i64 xe, .bool xb, .slice a7 m c7]) := below_setRow ((Below.refl _ _).alloc (Nat.le_refl _) _) _ (Nat.le_refl _)
        have hx8 : ((w7.alloc (.cells #[.int .i64 0, .int .i64 0, .bool false, .slice none 0 0] 30 (0, 0))).setRow w7.heap.size #[.int .i64 xs, .int .i64 xe, .bool xb, .slice a7 m c7]).heap[w7.heap.size]? = some (.cells #[.int .i64 xs, .int .i64 xe, .bool xb, .slice a7 m c7] 30 (0, 0)) := heap_setRow (heap_alloc_new _ _)
        have HR8 := Lib.hid (HR7.out.more hb8)
        have HQ8 := Lib.hid (HQ7.out.below hb8)
        have hy8 := (hb8.block Q hQ7).trans HX7.out
        generalize (w7.alloc (.cells #[.int .i64 0, .int .i64 0, .bool false, .slice none 0 0] 30)).setRow w7.heap.size #[.int .i64 xs, .int .i64 xe, .bool xb, .slice a7 m c7] = w8 at hx8 HR8 HQ8 hy8 ⊢
        generalize w7.heap.size = G at hx8 ⊢
        have c0 : w8.cell? ⟨Q, 0, none⟩ = some wv := by simp [World.cell?, hy8]
        have c1 : w8.cell? ⟨Q, 1, none⟩ = some (.slice qa p.threads.length qc) := by simp [World.cell?, hy8]
        have hG8 : G < w8.heap.size := by rw [Array.getElem?_eq_some_iff] at hx8; exact hx8.1
        have HX8 := Lib.hid hx8
        clear hb8 HR7 HQ7 HX7 hx8 hy8 hone hvo hQ7
        go_wp2_with fail
        refine (explore_walk _ _ (rv p) w8 HQ8.out (rv_in hin)).mono ?_
        rintro e w9 ⟨v9, hb9, rfl, hv9⟩
        rw [E5.out] at hv9
        obtain ⟨a9, c9, e9⟩ : ∃ a c, v9 = .slice a m c := by
          obtain ⟨a, c, e⟩ := ints_shape hv9.reads
          exact ⟨a, c, by rw [e, E5.out]⟩
        subst e9
        have hvo := OwnS.one hv9
        rw [E1.out, E2.out, E3.out, E4.out]
        have HR9 := Lib.hid (HR8.out.more hb9)
        have HX9 := Lib.hid ((hb9.block G hG8).trans HX8.out)
        have hG9 : G < w9.heap.size := Nat.lt_of_lt_of_le hG8 hb9.size
        have hone := found_one xs xe xb _ hvo
        clear hv9 hb9 HR8 HQ8 HX8 c0 c1 hG8 hvo E1 E2 E3 E4 E5
        go_upto_region 15 with (refine wpList_store_row rfl 30 (.tmp 9) (.tmp 61) rfl w9.heap.size #[.int .i64 xs, .int .i64 xe, .bool xb, .slice a9 m c9] rfl rfl 30 _ (heap_alloc_new _ _) info_found rfl hone ?_)
        have hb10 : Below w9.heap.size w9 ((w9.alloc (.cells #[.int .i64 0, .int .i64 0, .bool false, .slice none 0 0] 30 (0, 0))).setRow w9.heap.size #[.int .i64 xs, .int .i64 xe, .bool xb, .slice a9 m c9]) := below_setRow ((Below.refl _ _).alloc (Nat.le_refl _) _) _ (Nat.le_refl _)
        have hx10 : ((w9.alloc (.cells #[.int .i64 0, .int .i64 0, .bool false, .slice none 0 0] 30 (0, 0))).setRow w9.heap.size #[.int .i64 xs, .int .i64 xe, .bool xb, .slice a9 m c9]).heap[w9.heap.size]? = some (.cells #[.int .i64 xs, .int .i64 xe, .bool xb, .slice a9 m c9] 30 (0, 0)) := heap_setRow (heap_alloc_new _ _)
        have HR10 := Lib.hid (HR9.out.more hb10)
        have hy10 := (hb10.block G hG9).trans HX9.out
        generalize (w9.alloc (.cells #[.int .i64 0, .int .i64 0, .bool false, .slice none 0 0] 30)).setRow w9.heap.size #[.int .i64 xs, .int .i64 xe, .bool xb, .slice a9 m c9] = w10 at hx10 HR10 hy10 ⊢
        generalize w9.heap.size = J at hx10 ⊢
        have g0 : w10.cell? ⟨G, 0, none⟩ = some (.int .i64 xs) := by simp [World.cell?, hy10]
        have g1 : w10.cell? ⟨G, 1, none⟩ = some (.int .i64 xe) := by simp [World.cell?, hy10]
        have g2 : w10.cell? ⟨G, 2, none⟩ = some (.bool xb) := by simp [World.cell?, hy10]
        have g3 : w10.cell? ⟨G, 3, none⟩ = some (.slice a7 m c7) := by simp [World.cell?, hy10]
        have j0 : w10.cell? ⟨J, 0, none⟩ = some (.int .i64 xs) := by simp [World.cell?, hx10]
        have j1 : w10.cell? ⟨J, 1, none⟩ = some (.int .i64 xe) := by simp [World.cell?, hx10]
        have j2 : w10.cell? ⟨J, 2, none⟩ = some (.bool xb) := by simp [World.cell?, hx10]
        have j3 : w10.cell? ⟨J, 3, none⟩ = some (.slice a9 m c9) := by simp [World.cell?, hx10]
        clear hb10 hx10 hy10 HR9 HX9 hone hG9
        go_wp2
        go_ret
        exact ⟨rfl, by rw [HN.out]; exact HR10.out.below⟩
end Go.Proofs.Ytmpgjnindbklaaa
