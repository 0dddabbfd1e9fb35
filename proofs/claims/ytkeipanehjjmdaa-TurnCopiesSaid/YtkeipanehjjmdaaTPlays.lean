/-
  The walk of TurnPlays: it returns true and changes nothing that was there.
-/
import Derived.Test.YtkeipanehjjmdaaTTwo
import Derived.BigQuiet
namespace Go.Proofs.Ytkeipanehjjmdaa
open Go.RowKit BA TU
theorem info_bool : (Try.prog.info? 4).map (fun i => (i.zero, i.size, i.bytes)) = some (some (.bool false), 1, 1) := by kernel_rfl
theorem bools_one (xs : List Bool) : ∀ u ∈ bools xs, u.oneCell' = true := by
  intro u hu
  unfold bools at hu
  rw [List.mem_map] at hu
  obtain ⟨x, _, rfl⟩ := hu
  rfl
set_option maxRecDepth 100000 in
set_option maxHeartbeats 1000000 in
theorem turnPlays_big (tv sv : Value) (ts : List Int) (ls : List (List Bool)) (w : World) (ht : Reads w tv (ts.map (Value.int .i64))) (hs : Grid w sv ls) (h1 : ts.length ≤ 140737488351232) (h2 : ls.length ≤ 140737488351232)
    (h3 : ∀ l ∈ ls, l.length ≤ 140737488351232) (hbig : decide (tot ts ls ≤ 20000) = false) :
    Calls Try.prog 3 #[tv, sv] w fun e w' => e = .returned (.bool true) ∧ Below w.heap.size w w' := by
  have HT := Lib.hid ht
  have HS := Lib.hid hs
  have H3 := Lib.hid h3
  have HG := Lib.hid hbig
  clear ht hs h3 hbig
  go_enter Try.func3, Try.ntmps3
  go_wp2_with fail
  refine (tknown _).mono ?_
  rintro e w1 ⟨rfl, hb1⟩
  go_wp2_with fail
  have ht1 := HT.out.same fun k _ hlt => hb1.block k hlt
  have hs1 : Grid w1 sv ls := by
    obtain ⟨V, q1, q2⟩ := HS.out
    exact ⟨V, q1.same fun k _ hlt => hb1.block k hlt, fun i hi => (q2 i hi).same fun k _ hlt => hb1.block k hlt⟩
  refine (small_any tv sv ts ls _ ht1 hs1 h1 h2 H3.out).mono ?_
  rintro e w' ⟨rfl, rfl⟩
  rw [HG.out]
  clear ht1 hs1
  go_wp2
  go_ret
  exact ⟨rfl, hb1⟩
theorem Two.written {w0 w : World} {ob rb : Nat} {lo lr : Value} {l1 : List Int} {a1 : Int} {l2 : List Int} {a2 : Int} (h : Two w0 w ob rb lo lr l1 a1 l2 a2) {g : Nat} (hg : w0.heap.size ≤ g) (h1 : g ≠ ob) (h2 : g ≠ rb) (h3 : some g ≠ lo.ownBlock) (h4 : some g ≠ lr.ownBlock) (o : Nat) (u : Value) (n : Nat) : Two w0 ((w.setCell ⟨g, o, none⟩ u).drewN n) ob rb lo lr l1 a1 l2 a2 := by
  have hgr : w.grownBy ((w.setCell ⟨g, o, none⟩ u).drewN n) (some g) := by
    have := grown_set w g o u
    exact ⟨this.os, this.tape, this.output, this.size, this.block⟩
  exact ⟨h.o.grown hgr (fun e => h1 (by cases e; rfl)) (fun k hk e => h3 (by rw [hk, e])), h.r.grown hgr (fun e => h2 (by cases e; rfl)) (fun k hk e => h4 (by rw [hk, e])), h.below.grown hgr h.below.size (fun k hk => by cases hk; exact hg), h.obN, h.rbN, h.ne, h.lor, h.lro⟩
/-- The row that was lent: from place k on it is as it was handed in. -/
def Lent (w : World) (g : Nat) (ts : List Int) (k : Nat) : Prop := ∃ cur te, w.heap[g]? = some (.cells cur te (0, 0)) ∧ ∀ j, k ≤ j → j < ts.length → cur[j]? = some (.int .i64 (ts.getD j 0))
theorem Lent.cell {w : World} {g : Nat} {ts : List Int} {k : Nat} (h : Lent w g ts k) (hk : k < ts.length) : w.cell? ⟨g, k, none⟩ = some (.int .i64 (ts.getD k 0)) := by
  obtain ⟨cur, te, h1, h2⟩ := h
  simp [World.cell?, h1]
  simpa using h2 k (Nat.le_refl _) hk
theorem Lent.free {w : World} {g : Nat} {ts : List Int} {k : Nat} (h : Lent w g ts k) (j : Nat) : w.frozen? ⟨g, j, none⟩ = false := by
  obtain ⟨cur, te, h1, h2⟩ := h
  simp [World.frozen?, h1]
theorem Lent.set {w : World} {g : Nat} {ts : List Int} {k : Nat} (h : Lent w g ts k) (u : Value) : Lent (w.setCell ⟨g, k, none⟩ u) g ts (k + 1) := by
  obtain ⟨cur, te, h1, h2⟩ := h
  refine ⟨_, te, cells_set h1, fun j hj hl => ?_⟩
  rw [Array.getElem?_setIfInBounds_ne (by omega)]
  exact h2 j (by omega) hl
theorem Lent.own {w : World} {base : Nat} {g n c : Nat} {ts : List Int} (h : OwnS w base 1 (.slice (some ⟨g, 0, none⟩) n c) ts.length (ts.map (Value.int .i64))) : Lent w g ts 0 := by
  obtain ⟨te, h⟩ := h
  rcases h.2 with ⟨hv, _⟩ | ⟨g', cap, cur, hv, _, hg, _, _, _, ht⟩
  · cases hv
  · cases hv
    refine ⟨cur, te, hg, fun j _ hj => ?_⟩
    have : (cur.toList.take (ts.length * 1))[j]? = some (.int .i64 (ts.getD j 0)) := by rw [ht]; simp [hj]
    rw [List.getElem?_take_of_lt (by omega)] at this
    simpa using this
theorem Lent.below {w w' : World} {g : Nat} {ts : List Int} {k : Nat} (h : Lent w g ts k) (hb : Below w.heap.size w w') : Lent w' g ts k := by
  obtain ⟨cur, te, h1, h2⟩ := h
  exact ⟨cur, te, (hb.block g (lt_of_block h1)).trans h1, h2⟩
theorem reads_cell {w : World} {b o n c k : Nat} {ts : List Int} (h : Reads w (.slice (some ⟨b, o, none⟩) n c) (ts.map (Value.int .i64))) (hk : k < ts.length) : w.cell? ⟨b, o + k, none⟩ = some (.int .i64 (ts.getD k 0)) := by
  rcases h with ⟨h, _⟩ | ⟨_, b', o', c', hv, _, _, h3⟩
  · have : ts = [] := by simpa using h
    rw [this] at hk; simp at hk
  · cases hv
    exact h3 k _ (by simp [hk])
theorem reads_form {w : World} {v : Value} {ts : List Int} (h : Reads w v (ts.map (Value.int .i64))) (h0 : 0 < ts.length) : ∃ b o c, v = .slice (some ⟨b, o, none⟩) ts.length c ∧ b < w.heap.size := by
  have h' := h
  rcases h with ⟨h, _⟩ | ⟨hne, b', o', c', hv, _, _, h3⟩
  · have : ts = [] := by simpa using h
    rw [this] at h0; simp at h0
  · rw [List.length_map] at hv
    exact ⟨b', o', c', hv, reads_blk h' hne b' (by rw [hv]; rfl)⟩
/-- Of no block from B on does an order hold its turns. -/
structure Bnd (B : Nat) (lo lr : Value) (w : World) : Prop where
  o : ∀ k, lo.ownBlock = some k → k < B
  r : ∀ k, lr.ownBlock = some k → k < B
  size : B ≤ w.heap.size
/-- A row of bools that is the call's own: from place k on it is as it was. -/
def LentB (w : World) (g : Nat) (l : List Bool) (k : Nat) : Prop := ∃ cur te, w.heap[g]? = some (.cells cur te (0, 0)) ∧ ∀ j, k ≤ j → j < l.length → cur[j]? = some (.bool (l.getD j false))
theorem LentB.cell {w : World} {g : Nat} {l : List Bool} {k : Nat} (h : LentB w g l k) (hk : k < l.length) : w.cell? ⟨g, k, none⟩ = some (.bool (l.getD k false)) := by
  obtain ⟨cur, te, h1, h2⟩ := h
  simp [World.cell?, h1]
  simpa using h2 k (Nat.le_refl _) hk
theorem LentB.free {w : World} {g : Nat} {l : List Bool} {k : Nat} (h : LentB w g l k) (j : Nat) : w.frozen? ⟨g, j, none⟩ = false := by
  obtain ⟨cur, te, h1, h2⟩ := h
  simp [World.frozen?, h1]
theorem LentB.set {w : World} {g : Nat} {l : List Bool} {k : Nat} (h : LentB w g l k) (u : Value) : LentB (w.setCell ⟨g, k, none⟩ u) g l (k + 1) := by
  obtain ⟨cur, te, h1, h2⟩ := h
  refine ⟨_, te, cells_set h1, fun j hj hl => ?_⟩
  rw [Array.getElem?_setIfInBounds_ne (by omega)]
  exact h2 j (by omega) hl
theorem LentB.kept {w w' : World} {g : Nat} {l : List Bool} {k : Nat} {row : Option Nat} (h : LentB w g l k) (hg : w.grownBy w' row) (hr : some g ≠ row) : LentB w' g l k := by
  obtain ⟨cur, te, h1, h2⟩ := h
  exact ⟨cur, te, (hg.block g (lt_of_block h1) hr).trans h1, h2⟩
theorem bools_form {w : World} {base : Nat} {ao : Option Addr} {n c : Nat} {l : List Bool} (h : OwnS w base 1 (.slice ao n c) l.length (bools l)) (h0 : 0 < l.length) : ∃ g, ao = some ⟨g, 0, none⟩ ∧ base ≤ g ∧ LentB w g l 0 := by
  obtain ⟨te, h⟩ := h
  rcases h.2 with ⟨_, hv⟩ | ⟨g, cap, cur, hv, hb, hg, _, _, _, ht⟩
  · omega
  · cases hv
    refine ⟨g, rfl, hb, cur, te, hg, fun j _ hj => ?_⟩
    have : (cur.toList.take (l.length * 1))[j]? = some (.bool (l.getD j false)) := by rw [ht]; simp [bools, hj]
    rw [List.getElem?_take_of_lt (by omega)] at this
    simpa using this
theorem bools_cell {w : World} {b o n c k : Nat} {l : List Bool} (h : Reads w (.slice (some ⟨b, o, none⟩) n c) (bools l)) (hk : k < l.length) : w.cell? ⟨b, o + k, none⟩ = some (.bool (l.getD k false)) := by
  rcases h with ⟨h, _⟩ | ⟨_, b', o', c', hv, _, _, h3⟩
  · have : l = [] := by simpa [bools] using h
    rw [this] at hk; simp at hk
  · cases hv
    exact h3 k _ (by simp [bools, hk])
theorem bools_shape {w : World} {v : Value} {l : List Bool} (h : Reads w v (bools l)) : ∃ ao c, v = .slice ao l.length c := by
  obtain ⟨ao, c, h⟩ := h.shape
  exact ⟨ao, c, by rw [h]; simp [bools]⟩
theorem bools_addr {w : World} {ao : Option Addr} {n c : Nat} {l : List Bool} (h : Reads w (.slice ao n c) (bools l)) (h0 : 0 < l.length) : ∃ b o, ao = some ⟨b, o, none⟩ ∧ b < w.heap.size := by
  have h' := h
  rcases h with ⟨h, _⟩ | ⟨hne, b', o', c', hv, _, _, h3⟩
  · have : l = [] := by simpa [bools] using h
    rw [this] at h0; simp at h0
  · cases hv
    exact ⟨b', o', rfl, reads_blk h' hne b' rfl⟩
set_option maxRecDepth 100000 in
set_option maxHeartbeats 2000000 in
theorem turnPlays_small (tv sv : Value) (ts : List Int) (ls : List (List Bool)) (w : World) (ht : Reads w tv (ts.map (Value.int .i64))) (hs : Grid w sv ls) (hsm : tot ts ls ≤ 20000) :
    Calls Try.prog 3 #[tv, sv] w fun e w' => e = .returned (.bool true) ∧ Below w.heap.size w w' := by
  obtain ⟨i0, hi, hz0, hz1, hz2⟩ := info_parts info_int
  obtain ⟨j0, hj, hy0, hy1, hy2⟩ := info_parts info_bool
  have htl : ts.length ≤ 20000 := by unfold tot at hsm; omega
  have hll : ls.length ≤ 20000 := by unfold tot at hsm; omega
  have hrl : ∀ k, k < ls.length → (ls.getD k []).length ≤ 20000 := fun k hk => by have := row_le ls k hk; unfold tot at hsm; omega
  have HRL := Lib.hid hrl
  have HT := Lib.hid ht
  have HS := Lib.hid hs
  have HG := Lib.hid (decide_eq_true hsm)
  clear ht hs hsm hrl
  go_enter Try.func3, Try.ntmps3
  go_wp2_with fail
  refine (tknown _).mono ?_
  rintro e w1 ⟨rfl, hb1⟩
  go_wp2_with fail
  have ht1 := HT.out.same fun k _ hlt => hb1.block k hlt
  have hs1 : Grid w1 sv ls := by
    obtain ⟨V, q1, q2⟩ := HS.out
    exact ⟨V, q1.same fun k _ hlt => hb1.block k hlt, fun i hi => (q2 i hi).same fun k _ hlt => hb1.block k hlt⟩
  refine (small_any tv sv ts ls _ ht1 hs1 (by omega) (by omega) (fun l hl => ?_)).mono ?_
  · obtain ⟨k, hk, rfl⟩ := List.getElem_of_mem hl
    have := HRL.out k hk
    simp [hk] at this
    omega
  rintro e w' ⟨rfl, rfl⟩
  rw [HG.out]
  have HT1 := Lib.hid ht1
  clear ht1 hs1
  go_wp2_with (first
      | (at_builtin; refine wpList_append_reads _ rfl _ _ 22 rfl w1.heap.size 3 i0 (.int .i64 0) 8 Try.underlying22 hi hz0 hz1 hz2 rfl _ 0 [] rfl (OwnS.nil _ _ _) _ (ts.map (Value.int .i64)) rfl HT1.out (ints_one ts) ?c3 ?c4 ?c5 ?_))
  case c3 => simp; unfold maxLen; omega
  case c4 => simp; omega
  case c5 => exact Nat.le_refl _
  intro lent w2 q1 q2 q3
  have hb2 : Below w1.heap.size w1 w2 := (Below.refl _ _).grown q2 (Nat.le_refl _) (fun k hk => by cases hk)
  have hlb := q1.blk
  have hown := q1
  have ht2 := HT1.out.same fun k _ hlt => hb2.block k hlt
  have hlr := q1.reads
  obtain ⟨ao, c, rfl⟩ := ints_shape hlr
  clear q1 q2 q3
  go_wp2_with fail
  refine (new_any _ ts _ hlr (by omega)).mono ?_
  rintro e w3 ⟨ob, lo, rfl, ho3, hb3, hob3, hlo3⟩
  go_wp2_with fail
  have ht3 := ht2.same fun k _ hlt => hb3.block k hlt
  refine (rnew_any _ ts _ ht3 (by omega)).mono ?_
  rintro e w4 ⟨rb, lr, rfl, hr4, hb4, hrb4, hlr4⟩
  have hT0 : Two w w4 ob rb lo lr ts (-1) ts (-1) := Two.ofNew (sv := sv) (w := w2) (Nat.le_trans hb1.size hb2.size) (hb1.trans (hb2.mono hb1.size)) ho3 hb3 hob3 (fun k hk => (hlo3 k hk).1) hr4 hb4 hrb4 (fun k hk => (hlr4 k hk).1) (fun k hk => (hlo3 k hk).2) rfl
  have hgl : ∀ g, (Value.slice ao ts.length c).ownBlock = some g → w.heap.size ≤ g ∧ g < w2.heap.size := fun g hg => ⟨by have := (hlb g hg).1; have := hb1.size; omega, (hlb g hg).2⟩
  have hgob : ∀ g, (Value.slice ao ts.length c).ownBlock = some g → g ≠ ob ∧ g ≠ rb ∧ some g ≠ lo.ownBlock ∧ some g ≠ lr.ownBlock := fun g hg => by
    have h1 := (hlb g hg).2
    have h2 := hb3.size
    exact ⟨by omega, by omega, fun e => by have := (hlo3 g e.symm).1; omega, fun e => by have := (hlr4 g e.symm).1; omega⟩
  have hBd : Bnd w4.heap.size lo lr w4 := ⟨fun k hk => by have := (hlo3 k hk).2; have := hb4.size; omega, fun k hk => (hlr4 k hk).2, Nat.le_refl _⟩
  have hb24 : Below w2.heap.size w2 w4 := hb3.trans (hb4.mono hb3.size)
  clear ht2 ht3 ho3 hb3 hob3 hlo3 hr4 hb4 hrb4 hlr4 hlb hlr hb2 HT1
  obtain ⟨ta, tc, rfl⟩ := ints_shape HT.out
  have hown' : 0 < ts.length → ∃ g, ao = some ⟨g, 0, none⟩ ∧ Lent w4 g ts 0 := fun h0 => by
    obtain ⟨g, go, gc, hge, _⟩ := reads_form hown.reads h0
    obtain ⟨rfl, rfl⟩ : ao = some ⟨g, go, none⟩ ∧ c = gc := by cases hge; exact ⟨rfl, rfl⟩
    obtain rfl : go = 0 := by
      obtain ⟨te, h⟩ := hown
      rcases h.2 with ⟨hv, _⟩ | ⟨g', cap, cur, hv, _⟩
      · cases hv
      · cases hv; rfl
    exact ⟨g, rfl, (Lent.own hown).below hb24⟩
  have HO := Lib.hid hown'
  have hL0 : Hid (∀ g, ao = some ⟨g, 0, none⟩ → 0 < ts.length → Lent w4 g ts 0) := Lib.hid fun g hg h0 => by
    obtain ⟨g', hg', hl⟩ := hown' h0
    obtain rfl : g = g' := by rw [hg] at hg'; cases hg'; rfl
    exact hl
  have HGL := Lib.hid hgl
  have HGO := Lib.hid hgob
  clear hown hown' hb24 hgl hgob
  go_wp2
  go_loopw [8] (fun i wr => ∃ k : Nat, k ≤ ts.length ∧ i = .int .i64 k ∧ Two w wr ob rb lo lr ts (-1) ts (-1) ∧ Bnd w4.heap.size lo lr wr ∧ Hid (∀ g, ao = some ⟨g, 0, none⟩ → 0 < ts.length → Lent wr g ts k)) (fun i _ => ts.length - (intOf i).toNat)
  case atStart => exact ⟨0, by omega, rfl, hT0, hBd, hL0⟩
  case round =>
    clear hT0 hL0 hBd
    obtain ⟨k, hk, rfl, hT, hBd, HL⟩ := hrel
    by_cases hlt : k < ts.length
    · obtain ⟨g, rfl, _⟩ := HO.out (by omega)
      obtain ⟨tb, to, tc', hte, htb⟩ := reads_form HT.out (by omega)
      obtain ⟨rfl, rfl⟩ : ta = some ⟨tb, to, none⟩ ∧ tc = tc' := by cases hte; exact ⟨rfl, rfl⟩
      have hL := HL.out g rfl (by omega)
      obtain ⟨hg1, hg3⟩ := HGL.out g rfl
      obtain ⟨hg4, hg5, hg6, hg7⟩ := HGO.out g rfl
      have hc1 := hL.cell hlt
      have hf1 := hL.free k
      have hc2 := (hT.below.cell (p := ⟨tb, to + k, none⟩) htb).trans (reads_cell HT.out hlt)
      have hi1 : (0 : Int) ≤ (k : Int) := by omega
      have hi2 : (k : Int) < (ts.length : Int) := by omega
      clear hte
      generalize ts.getD k 0 = y at *
      go_wp2
      go_quiet (fail)
      go_wp2
      go_roundw
      case rel => exact ⟨k + 1, by omega, by go_num, hT.written hg1 hg4 hg5 hg6 hg7 _ _ _, ⟨hBd.o, hBd.r, by have := hBd.size; simpa [World.setCell] using this⟩, Lib.hid fun g' hg' _ => by cases hg'; exact hL.set _⟩
      case measure => simp [intOf]; omega
    · go_wp2
      obtain ⟨wo, rfl⟩ : ∃ wo : World, wo = wr := ⟨_, rfl⟩
      rcases Grid.opened HS.out with ⟨rfl, ao', c', rfl⟩ | ⟨b, o, c', V, rfl, hl0, hbl, hcell⟩
      · go_loopw [9] (fun i wr => i = .int .i64 0 ∧ Below w.heap.size w wr) (fun _ _ => 0)
        case atStart => exact ⟨rfl, hT.below⟩
        case round =>
          obtain ⟨rfl, hbe⟩ := hrel
          go_wp2
          go_ret
          exact ⟨rfl, hbe⟩
      · have HC := Lib.hid hcell
        clear hcell
        go_loopw [9] (fun i wr => ∃ (k : Nat) (left : List Int) (last : Int) (lo' lr' : Value), k ≤ ls.length ∧ i = .int .i64 k ∧ Two w wr ob rb lo' lr' left last left last ∧ Bnd w4.heap.size lo' lr' wr ∧ left.length ≤ 20000) (fun i _ => ls.length - (intOf i).toNat)
        case atStart => exact ⟨0, ts, -1, lo, lr, by omega, rfl, hT, hBd, htl⟩
        case round =>
          clear hT hBd
          obtain ⟨k, left, last, lo', lr', hk, rfl, hT, hBd, hle⟩ := hrel
          by_cases hlt : k < ls.length
          · obtain ⟨hcx, hrx⟩ := HC.out k hlt
            have hLl := HRL.out k hlt
            generalize ls.getD k [] = L at *
            obtain ⟨ao2, c2, hsh⟩ := bools_shape hrx
            rw [hsh] at hcx hrx
            clear hsh
            have hc5 := (hT.below.cell (p := ⟨b, o + k, none⟩) hbl).trans hcx
            have HR5 := Lib.hid (hrx.same fun j _ hj => hT.below.block j hj)
            have HRX := Lib.hid hrx
            have HCX := Lib.hid hcx
            clear hrx hcx
            have hbs : (bools L).length = L.length := by simp [bools]
            have HBS := Lib.hid hbs
            clear hbs
            go_wp2_with (first
              | (at_builtin; refine wpList_append_reads _ rfl _ _ 30 rfl wr.heap.size 4 j0 (.bool false) 1 Try.underlying30 hj hy0 hy1 hy2 rfl _ 0 [] rfl (OwnS.nil _ _ _) _ (bools L) rfl HR5.out (bools_one L) ?c3 ?c4 ?c5 ?_))
            case c3 => rw [HBS.out]; unfold maxLen; omega
            case c4 => rw [HBS.out]; omega
            case c5 => exact Nat.le_refl _
            intro vl w5 q1 q2 q3
            have hT5 := hT.fresh q2 (fun k hk => by cases hk)
            have hs5 := q2.size
            rw [HBS.out] at q1
            have hRl := q1.reads
            obtain ⟨ao3, c3, rfl⟩ := bools_shape hRl
            have hown := Lib.hid q1
            have hbe5 : Below wr.heap.size wr w5 := (Below.refl _ _).grown q2 (Nat.le_refl _) (fun k hk => by cases hk)
            have hc6 := (hbe5.cell (p := ⟨b, o + k, none⟩) (World.block_lt_of_cell? _ _ hc5)).trans hc5
            clear q1 q2 q3 hc5 hbe5
            go_wp2
            go_region_with (first
              | (go_at_call 16; refine (pick_any ob lo' _ left last L w5.drew hT5.o.drew hRl.drew (by omega)).mono ?_; rintro e w6 ⟨rfl, hg6, lo2, ho6, hb6⟩; have hT6 := hT5.drew.pickO hg6 ho6 hb6; have hc7 := (hT6.below.cell (p := ⟨b, o + k, none⟩) hbl).trans HCX.out)
              | (go_at_call 17; refine (rpick_any rb lr' _ left last L w6 hT6.r (HRX.out.same fun j _ hj => hT6.below.block j hj) (by omega)).mono ?_; rintro e w7 ⟨rfl, hg7, lr2, hr7, hb7⟩; have hT7 := hT6.pickR hg7 hr7 hb7)
              | (go_at_call 18; refine (left_any ob lo2 _ _ w7 hT7.o).mono ?_; rintro e w' ⟨rfl, rfl⟩)
              | (go_at_call 19; refine (rleft_any rb lr2 _ _ w7 hT7.r).mono ?_; rintro e w' ⟨rfl, rfl⟩))
            all_goals
            have hw5 := hT.below.size
            have hob5 := lt_of_block hT.o.1
            have hrb5 := lt_of_block hT.r.1
            have hBd7 : Bnd w4.heap.size lo2 lr2 w7 := ⟨by rw [hb6]; exact hBd.o, by rw [hb7]; exact hBd.r, by have := hBd.size; have := hg6.size; have := hg7.size; simp at *; omega⟩
            have hgx : ∀ g, ao3 = some ⟨g, 0, none⟩ → 0 < L.length → wr.heap.size ≤ g ∧ LentB w7 g L 0 := fun g hg h0 => by
              obtain ⟨g', hg', hwg, hl⟩ := bools_form hown.out h0
              obtain rfl : g = g' := by rw [hg] at hg'; cases hg'; rfl
              have hl5 : LentB w5.drew g L 0 := hl
              exact ⟨hwg, (hl5.kept hg6 (fun e => by cases e; omega)).kept hg7 (fun e => by cases e; omega)⟩
            have hgy : 0 < L.length → ∃ g, ao3 = some ⟨g, 0, none⟩ := fun h0 => by
              obtain ⟨g', hg', _⟩ := bools_form hown.out h0
              exact ⟨g', hg'⟩
            have hsz := hBd.size
            have hpl : (pickLeft left (rdy L)).length ≤ 20000 := by
              unfold pickLeft
              split
              · exact hle
              · simp; omega
            have HGX := Lib.hid hgx
            have HGY := Lib.hid hgy
            have HPL := Lib.hid hpl
            generalize pickLeft left (rdy L) = left' at *
            generalize pickLast left last (rdy L) = last' at *
            clear hgx hgy hT hT5 hT6 hg6 hg7 ho6 hr7 hb6 hb7 hown hRl hc6 hc7 hBd HR5 hpl
            go_wp2
            obtain ⟨wi, rfl⟩ : ∃ wi : World, wi = wr := ⟨_, rfl⟩
            go_loopw [11] (fun i wr => ∃ j : Nat, j ≤ L.length ∧ i = .int .i64 j ∧ Two w wr ob rb lo2 lr2 left' last' left' last' ∧ Bnd w4.heap.size lo2 lr2 wr ∧ Hid (∀ g, ao3 = some ⟨g, 0, none⟩ → 0 < L.length → LentB wr g L j)) (fun i _ => L.length - (intOf i).toNat)
            case atStart => exact ⟨0, by omega, rfl, hT7, hBd7, Lib.hid fun g hg h0 => (HGX.out g hg h0).2⟩
            case round =>
              clear hT7 hBd7
              obtain ⟨j, hj, rfl, hT, hBd, HL⟩ := hrel
              by_cases hjl : j < L.length
              · obtain ⟨g, rfl⟩ := HGY.out (by omega)
                have hL := HL.out g rfl (by omega)
                have hg1 := (HGX.out g rfl (by omega)).1
                obtain ⟨b2, o2, rfl, hb2w⟩ := bools_addr HRX.out (by omega)
                have hc1 := hL.cell hjl
                have hf1 := hL.free j
                have hc2 := (hT.below.cell (p := ⟨b2, o2 + j, none⟩) hb2w).trans (bools_cell HRX.out hjl)
                have hc3 := (hT.below.cell (p := ⟨b, o + k, none⟩) hbl).trans HCX.out
                have hi1 : (0 : Int) ≤ (j : Int) := by omega
                have hi2 : (j : Int) < (L.length : Int) := by omega
                have hi3 : (0 : Int) ≤ (k : Int) := by omega
                have hi4 : (k : Int) < (ls.length : Int) := by omega
                generalize L.getD j false = y at *
                go_wp2
                go_quiet (fail)
                go_wp2
                go_roundw
                case rel => exact ⟨j + 1, by omega, by go_num, hT.written (by omega) (by omega) (by omega) (fun e => by have := hBd.o g e.symm; omega) (fun e => by have := hBd.r g e.symm; omega) _ _ _, ⟨hBd.o, hBd.r, by have := hBd.size; simpa [World.setCell] using this⟩, Lib.hid fun g' hg' _ => by cases hg'; exact hL.set _⟩
                case measure => simp [intOf]; omega
              · go_wp2
                go_roundw
                case rel => exact ⟨k + 1, left', last', lo2, lr2, by omega, by go_num, hT, hBd, HPL.out⟩
                case measure => simp [intOf]; omega
          · obtain rfl : k = ls.length := by omega
            go_wp2
            go_ret
            exact ⟨rfl, hT.below⟩
theorem turnPlays_walk (tv : Value) (ts : List Int) (sv : Value) (ls : List (List Bool)) (w : World) (ht : Reads w tv (ts.map (Value.int .i64))) (x1 : ts.length * 8 ≤ reachBytes) (hs : Grid w sv ls) (x2 : ls.length * 24 ≤ reachBytes)
    (x3 : ∀ l ∈ ls, l.length ≤ reachBytes) :
    Calls Try.prog 3 #[tv, sv] w fun e w' => e = .returned (.bool true) ∧ Below w.heap.size w w' := by
  have hr : reachBytes = 140737488351232 := rfl
  by_cases h : tot ts ls ≤ 20000
  · exact turnPlays_small tv sv ts ls w ht hs h
  · exact turnPlays_big tv sv ts ls w ht hs (by omega) (by omega) (fun l hl => by have := x3 l hl; omega) (decide_eq_false h)
end Go.Proofs.Ytkeipanehjjmdaa
