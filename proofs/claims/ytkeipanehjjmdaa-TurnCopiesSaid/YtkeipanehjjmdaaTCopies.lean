/-
  The walk of TurnCopies: it returns true and changes nothing that was there.
-/
import Derived.Test.YtkeipanehjjmdaaTPlays
namespace Go.Proofs.Ytkeipanehjjmdaa
open Go.RowKit BA TU
/-- What is done to another order's block, and in new memory, leaves two orders as they are. -/
theorem Two.other {w0 w w2 : World} {pb sb : Nat} {lp ls : Value} {l1 : List Int} {a1 : Int} {l2 : List Int} {a2 : Int} {x : Nat} (h : Two w0 w pb sb lp ls l1 a1 l2 a2) (hg : w.grownBy w2 (some x))
    (h0 : w0.heap.size ≤ x) (h1 : x ≠ pb) (h2 : x ≠ sb) (h3 : lp.ownBlock ≠ some x) (h4 : ls.ownBlock ≠ some x) : Two w0 w2 pb sb lp ls l1 a1 l2 a2 :=
  ⟨h.o.grown hg (fun e => h1 (by cases e; rfl)) (fun k hk e => h3 (by rw [hk, e])), h.r.grown hg (fun e => h2 (by cases e; rfl)) (fun k hk e => h4 (by rw [hk, e])), h.below.grown hg h.below.size (fun k hk => by cases hk; exact h0), h.obN, h.rbN, h.ne, h.lor, h.lro⟩
/-- Block x is none of two orders'. -/
structure Off (x pb sb : Nat) (lp ls : Value) : Prop where
  p : x ≠ pb
  s : x ≠ sb
  lp : lp.ownBlock ≠ some x
  ls : ls.ownBlock ≠ some x
theorem pickLeft_le (left : List Int) (L : List Nat) (h : left.length ≤ 20000) : (pickLeft left L).length ≤ 20000 := by
  unfold pickLeft
  split
  · exact h
  · simp; omega
theorem grid_below {w w1 : World} {sv : Value} {ls : List (List Bool)} (h : Grid w sv ls) (hb : Below w.heap.size w w1) : Grid w1 sv ls := by
  obtain ⟨V, q1, q2⟩ := h
  exact ⟨V, q1.same fun k _ hlt => hb.block k hlt, fun i hi => (q2 i hi).same fun k _ hlt => hb.block k hlt⟩
set_option maxRecDepth 100000 in
set_option maxHeartbeats 4000000 in
theorem turnCopies_big (tv bv av : Value) (ts : List Int) (bs zs : List (List Bool)) (w : World) (ht : Reads w tv (ts.map (Value.int .i64))) (hb : Grid w bv bs) (ha : Grid w av zs) (h1 : ts.length ≤ 140737488351232) (h2 : bs.length ≤ 140737488351232) (h3 : ∀ l ∈ bs, l.length ≤ 140737488351232) (_h4 : zs.length ≤ 140737488351232) (h5 : ∀ l ∈ zs, l.length ≤ 140737488351232) (hbig : tot ts bs ≤ 20000 → False) :
    Calls Try.prog 5 #[tv, bv, av] w fun e w' => e = .returned (.bool true) ∧ Below w.heap.size w w' := by
  have HG := Lib.hid (decide_eq_false hbig)
  clear hbig
  have HT := Lib.hid ht
  have HB := Lib.hid hb
  have HA := Lib.hid ha
  have H3 := Lib.hid h3
  have H5 := Lib.hid h5
  clear ht hb ha h3 h5
  go_enter Try.func5, Try.ntmps5
  go_wp2_with fail
  refine (tknown _).mono ?_
  rintro e w1 ⟨rfl, hb1⟩
  go_wp2_with fail
  refine (small_any tv bv ts bs _ (HT.out.same fun k _ hlt => hb1.block k hlt) (grid_below HB.out hb1) (by omega) (by omega) H3.out).mono ?_
  rintro e w' ⟨rfl, rfl⟩
  rw [HG.out]
  go_wp2
  go_ret
  exact ⟨rfl, hb1⟩
set_option maxRecDepth 100000 in
set_option maxHeartbeats 4000000 in
theorem turnCopies_big2 (tv bv av : Value) (ts : List Int) (bs zs : List (List Bool)) (w : World) (ht : Reads w tv (ts.map (Value.int .i64))) (hb : Grid w bv bs) (ha : Grid w av zs) (h1 : ts.length ≤ 140737488351232) (h2 : bs.length ≤ 140737488351232) (h3 : ∀ l ∈ bs, l.length ≤ 140737488351232) (_h4 : zs.length ≤ 140737488351232) (h5 : ∀ l ∈ zs, l.length ≤ 140737488351232) (hsm : tot ts bs ≤ 20000) (hbig : tot [] zs ≤ 20000 → False) :
    Calls Try.prog 5 #[tv, bv, av] w fun e w' => e = .returned (.bool true) ∧ Below w.heap.size w w' := by
  have HG := Lib.hid (decide_eq_true hsm)
  have HG2 := Lib.hid (decide_eq_false hbig)
  clear hbig hsm
  have HT := Lib.hid ht
  have HB := Lib.hid hb
  have HA := Lib.hid ha
  have H3 := Lib.hid h3
  have H5 := Lib.hid h5
  clear ht hb ha h3 h5
  go_enter Try.func5, Try.ntmps5
  go_wp2_with fail
  refine (tknown _).mono ?_
  rintro e w1 ⟨rfl, hb1⟩
  go_wp2_with fail
  refine (small_any tv bv ts bs _ (HT.out.same fun k _ hlt => hb1.block k hlt) (grid_below HB.out hb1) (by omega) (by omega) H3.out).mono ?_
  rintro e w' ⟨rfl, rfl⟩
  rw [HG.out]
  go_wp2_with fail
  refine (small_any (.slice none 0 0) av [] zs _ (.inl ⟨rfl, none, 0, rfl, by unfold maxLen; omega, fun _ => rfl⟩) (grid_below HA.out hb1) (by simp) (by omega) H5.out).mono ?_
  rintro e w' ⟨rfl, rfl⟩
  rw [HG2.out]
  go_wp2
  go_ret
  exact ⟨rfl, hb1⟩
set_option maxRecDepth 100000 in
set_option maxHeartbeats 4000000 in
theorem turnCopies_small (tv bv av : Value) (ts : List Int) (bs zs : List (List Bool)) (w : World) (ht : Reads w tv (ts.map (Value.int .i64))) (hb : Grid w bv bs) (ha : Grid w av zs) (hsm : tot ts bs ≤ 20000) (hsm2 : tot [] zs ≤ 20000) :
    Calls Try.prog 5 #[tv, bv, av] w fun e w' => e = .returned (.bool true) ∧ Below w.heap.size w w' := by
  obtain ⟨i0, hi, hz0, hz1, hz2⟩ := info_parts info_int
  obtain ⟨j0, hj, hy0, hy1, hy2⟩ := info_parts info_bool
  have htl : ts.length ≤ 20000 := by unfold tot at hsm; omega
  have hbl0 : bs.length ≤ 20000 := by unfold tot at hsm; omega
  have hal0 : zs.length ≤ 20000 := by unfold tot at hsm2; omega
  have hrb : ∀ k, k < bs.length → (bs.getD k []).length ≤ 20000 := fun k hk => by have := row_le bs k hk; unfold tot at hsm; omega
  have hra : ∀ k, k < zs.length → (zs.getD k []).length ≤ 20000 := fun k hk => by have := row_le zs k hk; unfold tot at hsm2; omega
  have h3 : ∀ l ∈ bs, l.length ≤ 140737488351232 := fun l hl => by
    obtain ⟨k, hk, rfl⟩ := List.getElem_of_mem hl
    have := hrb k hk
    simp [hk] at this
    omega
  have h5 : ∀ l ∈ zs, l.length ≤ 140737488351232 := fun l hl => by
    obtain ⟨k, hk, rfl⟩ := List.getElem_of_mem hl
    have := hra k hk
    simp [hk] at this
    omega
  have HRB := Lib.hid hrb
  have HRA := Lib.hid hra
  have HG := Lib.hid (decide_eq_true hsm)
  have HG2 := Lib.hid (decide_eq_true hsm2)
  clear hsm hsm2 hrb hra
  have HT := Lib.hid ht
  have HB := Lib.hid hb
  have HA := Lib.hid ha
  have H3 := Lib.hid h3
  have H5 := Lib.hid h5
  clear ht hb ha h3 h5
  go_enter Try.func5, Try.ntmps5
  go_wp2_with fail
  refine (tknown _).mono ?_
  rintro e w1 ⟨rfl, hb1⟩
  go_wp2_with fail
  refine (small_any tv bv ts bs _ (HT.out.same fun k _ hlt => hb1.block k hlt) (grid_below HB.out hb1) (by omega) (by omega) H3.out).mono ?_
  rintro e w' ⟨rfl, rfl⟩
  rw [HG.out]
  go_wp2_with fail
  refine (small_any (.slice none 0 0) av [] zs _ (.inl ⟨rfl, none, 0, rfl, by unfold maxLen; omega, fun _ => rfl⟩) (grid_below HA.out hb1) (by simp) (by omega) H5.out).mono ?_
  rintro e w' ⟨rfl, rfl⟩
  rw [HG2.out]
  clear H3 H5
  have HT1 := Lib.hid (HT.out.same fun k _ hlt => hb1.block k hlt)
  go_wp2_with (first
      | (at_builtin; refine wpList_append_reads _ rfl _ _ 22 rfl w1.heap.size 3 i0 (.int .i64 0) 8 Try.underlying22 hi hz0 hz1 hz2 rfl _ 0 [] rfl (OwnS.nil _ _ _) _ (ts.map (Value.int .i64)) rfl HT1.out (ints_one ts) ?c3 ?c4 (Nat.le_refl _) ?_))
  case c3 => simp; unfold maxLen; omega
  case c4 => simp; omega
  intro lent w2 q1 q2 q3
  have hb2 : Below w1.heap.size w1 w2 := (Below.refl _ _).grown q2 (Nat.le_refl _) (fun k hk => by cases hk)
  have ht2 := HT1.out.same fun k _ hlt => hb2.block k hlt
  have hlr := q1.reads
  obtain ⟨ao, c, rfl⟩ := ints_shape hlr
  clear q1 q2 q3
  go_wp2_with fail
  refine (new_any _ ts _ hlr (by omega)).mono ?_
  rintro e w3 ⟨ob, lo, rfl, ho3, hb3, hob3, hlo3⟩
  go_wp2_with fail
  have ht3 := ht2.same fun k _ hlt => hb3.block k hlt
  refine (rnew_any _ ts _ ht3 (by omega)).mono ?_
  rintro e w4 ⟨rb, lr, rfl, hr4, hb4, hrb4, hlr4⟩
  have hT : Two w w4 ob rb lo lr ts (-1) ts (-1) := Two.ofNew (sv := tv) (w := w2) (Nat.le_trans hb1.size hb2.size) (hb1.trans (hb2.mono hb1.size)) ho3 hb3 hob3 (fun k hk => (hlo3 k hk).1) hr4 hb4 hrb4 (fun k hk => (hlr4 k hk).1) (fun k hk => (hlo3 k hk).2) rfl
  have hBd : Bnd w4.heap.size lo lr w4 := ⟨fun k hk => by have := (hlo3 k hk).2; have := hb4.size; omega, fun k hk => (hlr4 k hk).2, Nat.le_refl _⟩
  have HBD := Lib.hid hBd
  clear hb2 ht2 ht3 ho3 hb3 hob3 hlo3 hr4 hb4 hrb4 hlr4 hlr HT1 hBd
  have hgsHB : ∃ sa sc, bv = .slice sa bs.length sc := by
    rcases Grid.opened HB.out with ⟨rfl, ao', c', hv⟩ | ⟨b, o, c', V, hv, _⟩
    · exact ⟨_, _, hv⟩
    · exact ⟨_, _, hv⟩
  have hgsHA : ∃ sa sc, av = .slice sa zs.length sc := by
    rcases Grid.opened HA.out with ⟨rfl, ao', c', hv⟩ | ⟨b, o, c', V, hv, _⟩
    · exact ⟨_, _, hv⟩
    · exact ⟨_, _, hv⟩
  obtain ⟨bsa, bsc, rfl⟩ := hgsHB
  obtain ⟨asa, asc, rfl⟩ := hgsHA
  go_wp2
  go_loopw [9] (fun i wr => ∃ (k : Nat) (left : List Int) (last : Int) (lo' lr' : Value), k ≤ bs.length ∧ i = .int .i64 k ∧ Two w wr ob rb lo' lr' left last left last ∧ left.length ≤ 20000 ∧ Hid (lo'.ownBlock = lo.ownBlock ∧ lr'.ownBlock = lr.ownBlock) ∧ w4.heap.size ≤ wr.heap.size) (fun i _ => bs.length - (intOf i).toNat)
  case atStart => exact ⟨0, ts, (-1), lo, lr, by omega, rfl, hT, htl, Lib.hid ⟨rfl, rfl⟩, Nat.le_refl _⟩
  case round =>
    clear hT
    obtain ⟨k, left1, last1, lo1, lr1, hk, rfl, hT, hle, hOB1, hsz⟩ := hrel
    by_cases hlt : k < bs.length
    · rcases Grid.opened HB.out with ⟨hx, _⟩ | ⟨b, o, c', V, hv, hl0, hbl, hcell⟩
      · rw [hx] at hlt; simp at hlt
      obtain ⟨rfl, rfl⟩ : bsa = some ⟨b, o, none⟩ ∧ bsc = c' := by cases hv; exact ⟨rfl, rfl⟩
      obtain ⟨hcx, hrx⟩ := hcell k hlt
      have hLl := HRB.out k hlt
      generalize bs.getD k [] = L at *
      obtain ⟨ao2, c2, hsh⟩ := bools_shape hrx
      rw [hsh] at hcx hrx
      have hc5 := (hT.below.cell (p := ⟨b, o + k, none⟩) hbl).trans hcx
      have HR5 := Lib.hid (hrx.same fun j _ hj => hT.below.block j hj)
      have HRX := Lib.hid hrx
      have HCX := Lib.hid hcx
      have hbs : (bools L).length = L.length := by simp [bools]
      have HBS := Lib.hid hbs
      have hi3 : (0 : Int) ≤ (k : Int) := by omega
      have hi4 : (k : Int) < (bs.length : Int) := by omega
      clear hrx hcx hcell hv hsh hbs
      go_wp2
      go_region_law (first
        | (refine step_append_reads rfl _ _ 30 rfl wr.heap.size 4 j0 (.bool false) 1 Try.underlying30 hj hy0 hy1 hy2 rfl _ 0 [] rfl (OwnS.nil _ _ _) _ (bools L) rfl HR5.out.drew (bools_one L) (by rw [HBS.out]; unfold maxLen; omega) (by rw [HBS.out]; omega) (by exact Nat.le_refl _) ?_; intro vl w5 q1 q2 q3; have hT5 := hT.drew.fresh q2 (fun k hk => by cases hk); have hs5 := q2.size; have hRl := q1.reads; rw [List.nil_append] at hRl; obtain ⟨ao3, c3, hv⟩ := bools_shape hRl; have hc6 := (hT5.below.cell (p := ⟨b, o + k, none⟩) hbl).trans HCX.out; clear q1 q2 q3; rw [hv] at hRl ⊢; clear hv)
        | (go_simp; go_at_call 16; refine (pick_any ob lo1 _ left1 last1 L w5 hT5.o hRl (by omega)).mono ?_; rintro e w6 ⟨rfl, hg6, lo2, ho6, hb6⟩; have hT6 := hT5.pickO hg6 ho6 hb6; have hc7 := (hT6.below.cell (p := ⟨b, o + k, none⟩) hbl).trans HCX.out)
        | (go_simp; go_at_call 17; refine (rpick_any rb lr1 _ left1 last1 L w6 hT6.r (HRX.out.same fun j _ hj => hT6.below.block j hj) (by omega)).mono ?_; rintro e w7 ⟨rfl, hg7, lr2, hr7, hb7⟩; have hT7 := hT6.pickR hg7 hr7 hb7))
      all_goals
        have hpl := pickLeft_le left1 (rdy L) hle
        have hs7 : w4.heap.size ≤ w7.heap.size := by have := hg6.size; have := hg7.size; have := hs5; simp at *; omega
        have hob : Hid (lo2.ownBlock = lo.ownBlock ∧ lr2.ownBlock = lr.ownBlock) := Lib.hid ⟨hb6.trans hOB1.out.1, hb7.trans hOB1.out.2⟩
        have HPL := Lib.hid hpl
        clear hpl hg6 hg7 ho6 hr7 hb6 hb7 hT hT5 hT6 hRl hc6 hc7
        generalize pickLeft left1 (rdy L) = leftx at *
        generalize pickLast left1 last1 (rdy L) = lastx at *
        go_wp2
        go_roundw
        case rel => exact ⟨k + 1, leftx, lastx, lo2, lr2, by omega, by go_num, hT7, HPL.out, hob, hs7⟩
        case measure => simp [intOf]; omega
    · obtain rfl : k = bs.length := by omega
      go_wp2_with fail
      refine (copy_any ob lo1 left1 last1 _ hT.o (by omega)).mono ?_
      rintro e w8 ⟨pb, lp, rfl, hp8, hbc8, hpb8, hlp8⟩
      go_wp2_with fail
      refine (rcopy_any rb lr1 left1 last1 _ (hT.below' hbc8).r (by omega)).mono ?_
      rintro e w9 ⟨sb, ls', rfl, hs9, hbc9, hsb9, hls9⟩
      have hU : Two w w9 pb sb lp ls' left1 last1 left1 last1 := Two.ofNew (sv := tv) (w := wr) hT.below.size hT.below hp8 hbc8 hpb8 (fun k hk => (hlp8 k hk).1) hs9 hbc9 hsb9 (fun k hk => (hls9 k hk).1) (fun k hk => (hlp8 k hk).2) rfl
      have z1 := lt_of_block hT.o.1
      have z2 := lt_of_block hT.r.1
      have z3 := hbc8.size
      have z4 := lt_of_block hp8.1
      have hOo : Off ob pb sb lp ls' := ⟨by omega, by omega, fun e => by have := (hlp8 _ e).1; omega, fun e => by have := (hls9 _ e).1; omega⟩
      have hOr : Off rb pb sb lp ls' := ⟨by omega, by omega, fun e => by have := (hlp8 _ e).1; omega, fun e => by have := (hls9 _ e).1; omega⟩
      have y1 : ∀ k, lo1.ownBlock = some k → k < w4.heap.size := by rw [hOB1.out.1]; exact HBD.out.o
      have y2 : ∀ k, lr1.ownBlock = some k → k < w4.heap.size := by rw [hOB1.out.2]; exact HBD.out.r
      have hX : Hid (pb ≠ ob ∧ pb ≠ rb ∧ lo1.ownBlock ≠ some pb ∧ lr1.ownBlock ≠ some pb ∧ True) := Lib.hid ⟨by omega, by omega, fun e => by have := y1 _ e; omega, fun e => by have := y2 _ e; omega, trivial⟩
      have hY : Hid (sb ≠ ob ∧ sb ≠ rb ∧ lo1.ownBlock ≠ some sb ∧ lr1.ownBlock ≠ some sb ∧ True) := Lib.hid ⟨by omega, by omega, fun e => by have := y1 _ e; omega, fun e => by have := y2 _ e; omega, trivial⟩
      have hsz9 : w4.heap.size ≤ w9.heap.size := by have := hbc9.size; omega
      have hT9 : Two w w9 ob rb lo1 lr1 left1 last1 left1 last1 := (hT.below' hbc8).below' hbc9
      clear hT hp8 hbc8 hpb8 hlp8 hs9 hbc9 hsb9 hls9 z1 z2 z3 z4 y1 y2 hsz
      have hT := hT9
      clear hT9
      have hle1 := hle
      have HLE1 := Lib.hid hle1
      go_wp2_with fail
      refine (left_any pb lp _ _ _ hU.o).mono ?_
      rintro e w' ⟨rfl, rfl⟩
      go_wp2_with fail
      refine (rleft_any rb lr1 _ _ _ hT.r).mono ?_
      rintro e w' ⟨rfl, rfl⟩
      go_wp2
      go_loopw [12] (fun i wr => ∃ (k : Nat) (left : List Int) (last : Int) (lo' lr' : Value), k ≤ zs.length ∧ i = .int .i64 k ∧ Two w wr ob rb lo' lr' left last left last ∧ left.length ≤ 20000 ∧ Hid (lo'.ownBlock = lo1.ownBlock ∧ lr'.ownBlock = lr1.ownBlock) ∧ w4.heap.size ≤ wr.heap.size ∧ Two w wr pb sb lp ls' left1 last1 left1 last1) (fun i _ => zs.length - (intOf i).toNat)
      case atStart => exact ⟨0, left1, last1, lo1, lr1, by omega, rfl, hT, hle1, Lib.hid ⟨rfl, rfl⟩, hsz9, hU⟩
      case round =>
        clear hT hU
        obtain ⟨k, left2, last2, loB, lrB, hk, rfl, hT, hle, hOB2, hsz, hU⟩ := hrel
        by_cases hlt : k < zs.length
        · rcases Grid.opened HA.out with ⟨hx, _⟩ | ⟨b, o, c', V, hv, hl0, hbl, hcell⟩
          · rw [hx] at hlt; simp at hlt
          obtain ⟨rfl, rfl⟩ : asa = some ⟨b, o, none⟩ ∧ asc = c' := by cases hv; exact ⟨rfl, rfl⟩
          obtain ⟨hcx, hrx⟩ := hcell k hlt
          have hLl := HRA.out k hlt
          generalize zs.getD k [] = L at *
          obtain ⟨ao2, c2, hsh⟩ := bools_shape hrx
          rw [hsh] at hcx hrx
          have hc5 := (hT.below.cell (p := ⟨b, o + k, none⟩) hbl).trans hcx
          have HR5 := Lib.hid (hrx.same fun j _ hj => hT.below.block j hj)
          have HRX := Lib.hid hrx
          have HCX := Lib.hid hcx
          have hbs : (bools L).length = L.length := by simp [bools]
          have HBS := Lib.hid hbs
          have hi3 : (0 : Int) ≤ (k : Int) := by omega
          have hi4 : (k : Int) < (zs.length : Int) := by omega
          clear hrx hcx hcell hv hsh hbs
          go_wp2
          go_region_law (first
            | (refine step_append_reads rfl _ _ 30 rfl wr.heap.size 4 j0 (.bool false) 1 Try.underlying30 hj hy0 hy1 hy2 rfl _ 0 [] rfl (OwnS.nil _ _ _) _ (bools L) rfl HR5.out.drew (bools_one L) (by rw [HBS.out]; unfold maxLen; omega) (by rw [HBS.out]; omega) (by exact Nat.le_refl _) ?_; intro vl w5 q1 q2 q3; have hT5 := hT.drew.fresh q2 (fun k hk => by cases hk); have hs5 := q2.size; have hU5 := hU.drew.fresh q2 (fun k hk => by cases hk); have hRl := q1.reads; rw [List.nil_append] at hRl; obtain ⟨ao3, c3, hv⟩ := bools_shape hRl; have hc6 := (hT5.below.cell (p := ⟨b, o + k, none⟩) hbl).trans HCX.out; clear q1 q2 q3; rw [hv] at hRl ⊢; clear hv)
            | (go_simp; go_at_call 16; refine (pick_any ob loB _ left2 last2 L w5 hT5.o hRl (by omega)).mono ?_; rintro e w6 ⟨rfl, hg6, lo2, ho6, hb6⟩; have hT6 := hT5.pickO hg6 ho6 hb6; have hU6 := hU5.other hg6 hT5.obN hOo.p hOo.s hOo.lp hOo.ls; have hc7 := (hT6.below.cell (p := ⟨b, o + k, none⟩) hbl).trans HCX.out)
            | (go_simp; go_at_call 17; refine (rpick_any rb lrB _ left2 last2 L w6 hT6.r (HRX.out.same fun j _ hj => hT6.below.block j hj) (by omega)).mono ?_; rintro e w7 ⟨rfl, hg7, lr2, hr7, hb7⟩; have hT7 := hT6.pickR hg7 hr7 hb7; have hU7 := hU6.other hg7 hT6.rbN hOr.p hOr.s hOr.lp hOr.ls))
          all_goals
            have hpl := pickLeft_le left2 (rdy L) hle
            have hs7 : w4.heap.size ≤ w7.heap.size := by have := hg6.size; have := hg7.size; have := hs5; simp at *; omega
            have hob : Hid (lo2.ownBlock = lo1.ownBlock ∧ lr2.ownBlock = lr1.ownBlock) := Lib.hid ⟨hb6.trans hOB2.out.1, hb7.trans hOB2.out.2⟩
            have HPL := Lib.hid hpl
            clear hpl hg6 hg7 ho6 hr7 hb6 hb7 hT hT5 hT6 hRl hc6 hc7 hU hU5 hU6
            generalize pickLeft left2 (rdy L) = leftx at *
            generalize pickLast left2 last2 (rdy L) = lastx at *
            go_wp2
            go_roundw
            case rel => exact ⟨k + 1, leftx, lastx, lo2, lr2, by omega, by go_num, hT7, HPL.out, hob, hs7, hU7⟩
            case measure => simp [intOf]; omega
        · obtain rfl : k = zs.length := by omega
          go_wp2
          obtain ⟨wo, rfl⟩ : ∃ wo : World, wo = wr := ⟨_, rfl⟩
          have hTT := hT
          have hOo : Off pb ob rb loB lrB := ⟨hX.out.1, hX.out.2.1, by rw [hOB2.out.1]; exact hX.out.2.2.1, by rw [hOB2.out.2]; exact hX.out.2.2.2.1⟩
          have hOr : Off sb ob rb loB lrB := ⟨hY.out.1, hY.out.2.1, by rw [hOB2.out.1]; exact hY.out.2.2.1, by rw [hOB2.out.2]; exact hY.out.2.2.2.1⟩
          clear hT
          have hT := hU
          clear hU
          have hU := hTT
          clear hTT
          go_loopw [13] (fun i wr => ∃ (k : Nat) (left : List Int) (last : Int) (lo' lr' : Value), k ≤ zs.length ∧ i = .int .i64 k ∧ Two w wr pb sb lo' lr' left last left last ∧ left.length ≤ 20000 ∧ Hid (lo'.ownBlock = lp.ownBlock ∧ lr'.ownBlock = ls'.ownBlock) ∧ w4.heap.size ≤ wr.heap.size ∧ Two w wr ob rb loB lrB left2 last2 left2 last2) (fun i _ => zs.length - (intOf i).toNat)
          case atStart => exact ⟨0, left1, last1, lp, ls', by omega, rfl, hT, hle1, Lib.hid ⟨rfl, rfl⟩, hsz, hU⟩
          case round =>
            clear hT hU
            obtain ⟨k, left3, last3, lo3, lr3, hk, rfl, hT, hle, hOB3, hsz, hU⟩ := hrel
            by_cases hlt : k < zs.length
            · rcases Grid.opened HA.out with ⟨hx, _⟩ | ⟨b, o, c', V, hv, hl0, hbl, hcell⟩
              · rw [hx] at hlt; simp at hlt
              obtain ⟨rfl, rfl⟩ : asa = some ⟨b, o, none⟩ ∧ asc = c' := by cases hv; exact ⟨rfl, rfl⟩
              obtain ⟨hcx, hrx⟩ := hcell k hlt
              have hLl := HRA.out k hlt
              generalize zs.getD k [] = L at *
              obtain ⟨ao2, c2, hsh⟩ := bools_shape hrx
              rw [hsh] at hcx hrx
              have hc5 := (hT.below.cell (p := ⟨b, o + k, none⟩) hbl).trans hcx
              have HR5 := Lib.hid (hrx.same fun j _ hj => hT.below.block j hj)
              have HRX := Lib.hid hrx
              have HCX := Lib.hid hcx
              have hbs : (bools L).length = L.length := by simp [bools]
              have HBS := Lib.hid hbs
              have hi3 : (0 : Int) ≤ (k : Int) := by omega
              have hi4 : (k : Int) < (zs.length : Int) := by omega
              clear hrx hcx hcell hv hsh hbs
              go_wp2
              go_region_law (first
                | (refine step_append_reads rfl _ _ 30 rfl wr.heap.size 4 j0 (.bool false) 1 Try.underlying30 hj hy0 hy1 hy2 rfl _ 0 [] rfl (OwnS.nil _ _ _) _ (bools L) rfl HR5.out.drew (bools_one L) (by rw [HBS.out]; unfold maxLen; omega) (by rw [HBS.out]; omega) (by exact Nat.le_refl _) ?_; intro vl w5 q1 q2 q3; have hT5 := hT.drew.fresh q2 (fun k hk => by cases hk); have hs5 := q2.size; have hU5 := hU.drew.fresh q2 (fun k hk => by cases hk); have hRl := q1.reads; rw [List.nil_append] at hRl; obtain ⟨ao3, c3, hv⟩ := bools_shape hRl; have hc6 := (hT5.below.cell (p := ⟨b, o + k, none⟩) hbl).trans HCX.out; clear q1 q2 q3; rw [hv] at hRl ⊢; clear hv)
                | (go_simp; go_at_call 16; refine (pick_any pb lo3 _ left3 last3 L w5 hT5.o hRl (by omega)).mono ?_; rintro e w6 ⟨rfl, hg6, lo2, ho6, hb6⟩; have hT6 := hT5.pickO hg6 ho6 hb6; have hU6 := hU5.other hg6 hT5.obN hOo.p hOo.s hOo.lp hOo.ls; have hc7 := (hT6.below.cell (p := ⟨b, o + k, none⟩) hbl).trans HCX.out)
                | (go_simp; go_at_call 17; refine (rpick_any sb lr3 _ left3 last3 L w6 hT6.r (HRX.out.same fun j _ hj => hT6.below.block j hj) (by omega)).mono ?_; rintro e w7 ⟨rfl, hg7, lr2, hr7, hb7⟩; have hT7 := hT6.pickR hg7 hr7 hb7; have hU7 := hU6.other hg7 hT6.rbN hOr.p hOr.s hOr.lp hOr.ls))
              all_goals
                have hpl := pickLeft_le left3 (rdy L) hle
                have hs7 : w4.heap.size ≤ w7.heap.size := by have := hg6.size; have := hg7.size; have := hs5; simp at *; omega
                have hob : Hid (lo2.ownBlock = lp.ownBlock ∧ lr2.ownBlock = ls'.ownBlock) := Lib.hid ⟨hb6.trans hOB3.out.1, hb7.trans hOB3.out.2⟩
                have HPL := Lib.hid hpl
                clear hpl hg6 hg7 ho6 hr7 hb6 hb7 hT hT5 hT6 hRl hc6 hc7 hU hU5 hU6
                generalize pickLeft left3 (rdy L) = leftx at *
                generalize pickLast left3 last3 (rdy L) = lastx at *
                go_wp2
                go_roundw
                case rel => exact ⟨k + 1, leftx, lastx, lo2, lr2, by omega, by go_num, hT7, HPL.out, hob, hs7, hU7⟩
                case measure => simp [intOf]; omega
            · obtain rfl : k = zs.length := by omega
              go_wp2_with fail
              refine (left_any ob loB _ _ _ hU.o).mono ?_
              rintro e w' ⟨rfl, rfl⟩
              go_wp2_with fail
              refine (rleft_any rb lrB _ _ _ hU.r).mono ?_
              rintro e w' ⟨rfl, rfl⟩
              go_wp2_with fail
              refine (left_any pb lo3 _ _ _ hT.o).mono ?_
              rintro e w' ⟨rfl, rfl⟩
              go_wp2_with fail
              refine (rleft_any sb lr3 _ _ _ hT.r).mono ?_
              rintro e w' ⟨rfl, rfl⟩
              go_wp2
              go_ret
              exact ⟨rfl, hT.below⟩
end Go.Proofs.Ytkeipanehjjmdaa
