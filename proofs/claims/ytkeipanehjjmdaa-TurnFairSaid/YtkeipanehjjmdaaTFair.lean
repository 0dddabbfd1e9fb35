/-
  The walk of TurnFair: it returns true and changes nothing that was there.
-/
import Derived.Test.YtkeipanehjjmdaaTPlays
import Derived.Test.YtkeipanehjjmdaaTCyc
namespace Go.Proofs.Ytkeipanehjjmdaa
open Go.RowKit BA TU
/-- One order, in memory that is the call's own; of no block from B on does it hold its turns. -/
structure One (w0 w : World) (B ob : Nat) (lo : Value) (left : List Int) (last : Int) : Prop where
  o : OrdP w 53 ob lo left last
  below : Below w0.heap.size w0 w
  obN : w0.heap.size ≤ ob
  obB : ob < B
  bnd : ∀ k, lo.ownBlock = some k → k < B
  size : B ≤ w.heap.size
section
variable {w0 w : World} {B ob : Nat} {lo : Value} {left : List Int} {last : Int}
theorem One.fresh (h : One w0 w B ob lo left last) {wx : World} {row : Option Nat} (hg : w.grownBy wx row) (hr : ∀ k, row = some k → w.heap.size ≤ k) : One w0 wx B ob lo left last := by
  have hblk : ∀ k, k < w.heap.size → wx.heap[k]? = w.heap[k]? := fun k hk => hg.block k hk (fun e => by have := hr k e.symm; omega)
  exact ⟨⟨(hblk ob (lt_of_block h.o.1)).trans h.o.1, h.o.2.1.same fun k _ hlt => hblk k hlt, h.o.2.2⟩,
    h.below.grown hg h.below.size (fun k hk => by have := hr k hk; have := h.below.size; omega), h.obN, h.obB, h.bnd, Nat.le_trans h.size hg.size⟩
theorem One.pick (h : One w0 w B ob lo left last) {w2 : World} {lo' : Value} {left' : List Int} {last' : Int} (hg : w.grownBy w2 (some ob)) (ho : OrdP w2 53 ob lo' left' last') (hb : lo'.ownBlock = lo.ownBlock) : One w0 w2 B ob lo' left' last' :=
  ⟨ho, h.below.grown hg h.below.size (fun k hk => by cases hk; exact h.obN), h.obN, h.obB, by rw [hb]; exact h.bnd, Nat.le_trans h.size hg.size⟩
theorem One.written (h : One w0 w B ob lo left last) {g : Nat} (hg : B ≤ g) (o : Nat) (u : Value) : One w0 (w.setCell ⟨g, o, none⟩ u) B ob lo left last := by
  have hgr := grown_set w g o u
  have := h.obB
  have := h.obN
  exact ⟨h.o.grown hgr (fun e => by cases e; omega) (fun k hk e => by cases e; have := h.bnd _ hk; omega), h.below.grown hgr h.below.size (fun k hk => by cases hk; omega), h.obN, h.obB, h.bnd, by have := h.size; simpa [World.setCell] using this⟩
theorem LentB.setTrue {w : World} {g : Nat} {m : List Bool} (h : LentB w g m 0) (x : Nat) (b : Bool) : LentB (w.setCell ⟨g, x, none⟩ (.bool b)) g (m.set x b) 0 := by
  obtain ⟨cur, te, h1, h2⟩ := h
  refine ⟨_, te, cells_set h1, fun j hj hl => ?_⟩
  have hjm : j < m.length := by simpa using hl
  have hc := h2 j (by omega) hjm
  have hsz : j < cur.size := by
    have := Array.getElem?_eq_some_iff.1 hc
    exact this.1
  by_cases e : x = j
  · subst e
    simp only [Array.getElem?_setIfInBounds_self, hsz, if_true, List.getD_eq_getElem?_getD, List.getElem?_set, hjm]
    simp
  · rw [Array.getElem?_setIfInBounds_ne e, hc]
    simp only [List.getD_eq_getElem?_getD, List.getElem?_set_ne e]
theorem LentB.at {w : World} {g : Nat} {m : List Bool} (h : LentB w g m 0) {x : Nat} (hx : x < m.length) : w.cell? ⟨g, x, none⟩ = some (.bool (m.getD x false)) := by
  obtain ⟨cur, te, h1, h2⟩ := h
  simp [World.cell?, h1]
  simpa using h2 x (Nat.zero_le _) hx
end
theorem pick_val {ob : Nat} {lo rv : Value} {left : List Int} {last : Int} {w : World} (l : List Bool) (ho : OrdP w 53 ob lo left last) (hr : Reads w rv (bools l)) (hlen : l.length ≤ 1000000000)
    (k : Int) (left' : List Int) (last' : Int) (h1 : pickK left last (rdy l) = k) (h2 : pickLeft left (rdy l) = left') (h3 : pickLast left last (rdy l) = last') :
    Calls Try.prog 16 #[.pointer (some ⟨ob, 0, none⟩), rv] w fun e w' => e = .returned (.int .i64 k) ∧ w.grownBy w' (some ob) ∧ ∃ lv', OrdP w' 53 ob lv' left' last' ∧ lv'.ownBlock = lo.ownBlock := by
  refine (pick_any ob lo rv left last l w ho hr hlen).mono ?_
  rintro e w' ⟨rfl, hg, lv', ho', hb⟩
  subst h1 h2 h3
  exact ⟨rfl, hg, lv', ho', hb⟩
theorem left_val (ob : Nat) (lv : Value) (left : List Int) (last : Int) (m : Nat) (w : World) (ho : OrdP w 53 ob lv left last) (hm : left.length = m) :
    Calls Try.prog 18 #[.pointer (some ⟨ob, 0, none⟩)] w fun e w' => e = .returned (.int .i64 m) ∧ w = w' := by
  rw [← hm]; exact left_any ob lv left last w ho
theorem LentB.made {w : World} {base g n : Nat} (h : w.ownsRow base 4 1 (.slice (some ⟨g, 0, none⟩) n n) n (madeCells #[Value.bool false] n).toList) : LentB w g (List.replicate n false) 0 := by
  rcases h.2 with ⟨hv, _⟩ | ⟨g', cap, cur, hv, _, hg, _, _, _, ht⟩
  · cases hv
  · cases hv
    refine ⟨cur, _, hg, fun j _ hj => ?_⟩
    have hj' : j < n := by simpa using hj
    have e := toList_madeCells_one (.bool false) n
    rw [e] at ht
    have : (cur.toList.take (n * 1))[j]? = some (.bool false) := by rw [ht]; simp [hj']
    rw [List.getElem?_take_of_lt (by omega)] at this
    simpa [hj'] using this
theorem grid_one {w : World} {rv : Value} {l : List Bool} (hr : Reads w rv (bools l)) (T : TypeId) : Grid (w.alloc (.cells #[rv] T)) (.slice (some ⟨w.heap.size, 0, none⟩) 1 1) [l] := by
  refine ⟨fun _ => rv, reads_lit w #[rv] T (by simp; unfold maxLen; omega), fun i hi => ?_⟩
  obtain rfl : i = 0 := by simpa using hi
  exact hr.same fun k _ hlt => Below.heap_alloc _ _ _ hlt
theorem tot_one (ts : List Int) (l : List Bool) : tot ts [l] = ts.length + 1 + l.length := by simp [tot, sumTo]
set_option maxRecDepth 100000 in
set_option maxHeartbeats 2000000 in
theorem turnFair_big (tv rv : Value) (ts : List Int) (l : List Bool) (r : Int) (w : World) (ht : Reads w tv (ts.map (Value.int .i64))) (hr : Reads w rv (bools l)) (h1 : ts.length ≤ 140737488351232) (h2 : l.length ≤ 140737488351232) (hbig : tot ts [l] ≤ 20000 → False) :
    Calls Try.prog 4 #[tv, rv, .int .i64 r] w fun e w' => e = .returned (.bool true) ∧ Below w.heap.size w w' := by
  have HG := Lib.hid (decide_eq_false hbig)
  clear hbig
  obtain ⟨i0, hi, hz0, hz1, hz2⟩ := info_parts info_int
  obtain ⟨j0, hj, hy0, hy1, hy2⟩ := info_parts info_bool
  have hbs : (bools l).length = l.length := by simp [bools]
  have HBS := Lib.hid hbs
  obtain ⟨ra, rc, rfl⟩ := bools_shape hr
  have HT := Lib.hid ht
  have HR := Lib.hid hr
  clear ht hr hbs
  go_enter Try.func4, Try.ntmps4
  go_wp2_with fail
  refine (tknown _).mono ?_
  rintro e w1 ⟨rfl, hb1⟩
  go_wp2_with fail
  have ht1 := HT.out.same fun k _ hlt => hb1.block k hlt
  have hr1 := HR.out.same fun k _ hlt => hb1.block k hlt
  have htA := ht1.same (w' := w1.alloc (.cells #[.slice ra l.length rc] 30)) fun k _ hlt => Below.heap_alloc _ _ _ hlt
  refine (small_any tv _ ts [l] _ htA (grid_one hr1 _) (by omega) (by simp) (fun x hx => by simp at hx; subst hx; omega)).mono ?_
  rintro e w' ⟨rfl, rfl⟩
  rw [HG.out]
  clear htA
  go_wp2
  go_ret
  exact ⟨rfl, hb1.alloc hb1.size _⟩
set_option maxRecDepth 100000 in
set_option maxHeartbeats 2000000 in
theorem turnFair_round (tv rv : Value) (ts : List Int) (l : List Bool) (r : Int) (w : World) (ht : Reads w tv (ts.map (Value.int .i64))) (hr : Reads w rv (bools l)) (h1 : ts.length ≤ 140737488351232) (h2 : l.length ≤ 140737488351232) (hsm : tot ts [l] ≤ 20000) (hrr : r < 0 ∨ 20 < r) :
    Calls Try.prog 4 #[tv, rv, .int .i64 r] w fun e w' => e = .returned (.bool true) ∧ Below w.heap.size w w' := by
  have HG := Lib.hid (decide_eq_true hsm)
  clear hsm
  rcases hrr with hrr | hrr
  · obtain ⟨i0, hi, hz0, hz1, hz2⟩ := info_parts info_int
    obtain ⟨j0, hj, hy0, hy1, hy2⟩ := info_parts info_bool
    have hbs : (bools l).length = l.length := by simp [bools]
    have HBS := Lib.hid hbs
    obtain ⟨ra, rc, rfl⟩ := bools_shape hr
    have HT := Lib.hid ht
    have HR := Lib.hid hr
    clear ht hr hbs
    go_enter Try.func4, Try.ntmps4
    go_wp2_with fail
    refine (tknown _).mono ?_
    rintro e w1 ⟨rfl, hb1⟩
    go_wp2_with fail
    have ht1 := HT.out.same fun k _ hlt => hb1.block k hlt
    have hr1 := HR.out.same fun k _ hlt => hb1.block k hlt
    have htA := ht1.same (w' := w1.alloc (.cells #[.slice ra l.length rc] 30)) fun k _ hlt => Below.heap_alloc _ _ _ hlt
    refine (small_any tv _ ts [l] _ htA (grid_one hr1 _) (by omega) (by simp) (fun x hx => by simp at hx; subst hx; omega)).mono ?_
    rintro e w' ⟨rfl, rfl⟩
    rw [HG.out]
    clear htA
    go_wp2
    go_ret
    exact ⟨rfl, hb1.alloc hb1.size _⟩
  · obtain ⟨i0, hi, hz0, hz1, hz2⟩ := info_parts info_int
    obtain ⟨j0, hj, hy0, hy1, hy2⟩ := info_parts info_bool
    have hbs : (bools l).length = l.length := by simp [bools]
    have HBS := Lib.hid hbs
    obtain ⟨ra, rc, rfl⟩ := bools_shape hr
    have HT := Lib.hid ht
    have HR := Lib.hid hr
    clear ht hr hbs
    go_enter Try.func4, Try.ntmps4
    go_wp2_with fail
    refine (tknown _).mono ?_
    rintro e w1 ⟨rfl, hb1⟩
    go_wp2_with fail
    have ht1 := HT.out.same fun k _ hlt => hb1.block k hlt
    have hr1 := HR.out.same fun k _ hlt => hb1.block k hlt
    have htA := ht1.same (w' := w1.alloc (.cells #[.slice ra l.length rc] 30)) fun k _ hlt => Below.heap_alloc _ _ _ hlt
    refine (small_any tv _ ts [l] _ htA (grid_one hr1 _) (by omega) (by simp) (fun x hx => by simp at hx; subst hx; omega)).mono ?_
    rintro e w' ⟨rfl, rfl⟩
    rw [HG.out]
    clear htA
    go_wp2
    go_ret
    exact ⟨rfl, hb1.alloc hb1.size _⟩
set_option maxRecDepth 100000 in
set_option maxHeartbeats 2000000 in
theorem turnFair_small (tv rv : Value) (ts : List Int) (l : List Bool) (r : Int) (w : World) (ht : Reads w tv (ts.map (Value.int .i64))) (hr : Reads w rv (bools l)) (hsm : tot ts [l] ≤ 20000) (hr0 : 0 ≤ r) (hr20 : r ≤ 20) :
    Calls Try.prog 4 #[tv, rv, .int .i64 r] w fun e w' => e = .returned (.bool true) ∧ Below w.heap.size w w' := by
  have htl : ts.length ≤ 20000 := by rw [tot_one] at hsm; omega
  have hll : l.length ≤ 20000 := by rw [tot_one] at hsm; omega
  have HG := Lib.hid (decide_eq_true hsm)
  clear hsm
  obtain ⟨i0, hi, hz0, hz1, hz2⟩ := info_parts info_int
  obtain ⟨j0, hj, hy0, hy1, hy2⟩ := info_parts info_bool
  have hbs : (bools l).length = l.length := by simp [bools]
  have HBS := Lib.hid hbs
  obtain ⟨ra, rc, rfl⟩ := bools_shape hr
  have HT := Lib.hid ht
  have HR := Lib.hid hr
  clear ht hr hbs
  go_enter Try.func4, Try.ntmps4
  go_wp2_with fail
  refine (tknown _).mono ?_
  rintro e w1 ⟨rfl, hb1⟩
  go_wp2_with fail
  have ht1 := HT.out.same fun k _ hlt => hb1.block k hlt
  have hr1 := HR.out.same fun k _ hlt => hb1.block k hlt
  have htA := ht1.same (w' := w1.alloc (.cells #[.slice ra l.length rc] 30)) fun k _ hlt => Below.heap_alloc _ _ _ hlt
  refine (small_any tv _ ts [l] _ htA (grid_one hr1 _) (by omega) (by simp) (fun x hx => by simp at hx; subst hx; omega)).mono ?_
  rintro e w' ⟨rfl, rfl⟩
  rw [HG.out]
  clear htA
  obtain ⟨wA, hwA⟩ : ∃ wA, wA = w1.alloc (.cells #[.slice ra l.length rc] 30) := ⟨_, rfl⟩
  rw [← hwA]
  have hbA : Below w.heap.size w wA := by rw [hwA]; exact hb1.alloc hb1.size _
  clear hwA hb1
  have HTA := Lib.hid (HT.out.same fun k _ hlt => hbA.block k hlt)
  have HRA := Lib.hid (HR.out.same fun k _ hlt => hbA.block k hlt)
  clear ht1 hr1
  go_wp2
  go_loop [7, 8] (fun n i => ∃ k : Nat, k ≤ l.length ∧ i = .int .i64 k ∧ n = .int .i64 (rdyTo l k).length) (fun _ i => l.length - (intOf i).toNat)
  case atStart => exact ⟨0, by omega, rfl, rfl⟩
  case round =>
    obtain ⟨k, hk, rfl, rfl⟩ := hrel
    have hkl := rdyTo_le l k
    by_cases hlt : k < l.length
    · obtain ⟨b, o, rfl, hb⟩ := bools_addr HR.out (by omega)
      have hcx := (hbA.cell (p := ⟨b, o + k, none⟩) hb).trans (bools_cell HR.out hlt)
      cases hv : l.getD k false with
      | true =>
        rw [hv] at hcx
        have HH := Lib.hid (rdyTo_hit l k hv)
        clear hv
        go_wp2
        go_round
        case rel => exact ⟨k + 1, by omega, by go_num, by rw [HH.out, List.length_append]; go_num⟩
        case measure => simp [intOf]; omega
      | false =>
        rw [hv] at hcx
        have HH := Lib.hid (rdyTo_miss l k hv)
        clear hv
        go_wp2
        go_round
        case rel => exact ⟨k + 1, by omega, by go_num, by rw [HH.out]⟩
        case measure => simp [intOf]; omega
    · obtain rfl : k = l.length := by omega
      rw [show rdyTo l l.length = rdy l from rfl] at *
      go_wp2_with (first
        | (at_builtin; refine wpList_append_reads _ rfl _ _ 22 rfl wA.heap.size 3 i0 (.int .i64 0) 8 Try.underlying22 hi hz0 hz1 hz2 rfl _ 0 [] rfl (OwnS.nil _ _ _) _ (ts.map (Value.int .i64)) rfl HTA.out (ints_one ts) ?c3 ?c4 (Nat.le_refl _) ?_))
      case c3 => unfold maxLen; omega
      case c4 => omega
      intro lent w2 q1 q2 q3
      have hb2 : Below w.heap.size w w2 := hbA.grown q2 hbA.size (fun k hk => by cases hk)
      have hlr := q1.reads
      obtain ⟨ao, c, rfl⟩ := ints_shape hlr
      clear q1 q2 q3
      go_wp2_with fail
      refine (new_any _ ts _ hlr (by omega)).mono ?_
      rintro e w3 ⟨ob, lo, rfl, ho3, hb3, hob3, hlo3⟩
      have hT : One w w3 w3.heap.size ob lo ts (-1) := ⟨ho3, hb2.trans (hb3.mono hb2.size), Nat.le_trans hb2.size hob3, lt_of_block ho3.1, fun k hk => (hlo3 k hk).2, Nat.le_refl _⟩
      clear hlr hb2 ho3 hb3 hob3 hlo3
      generalize w3.heap.size = B at *
      obtain ⟨ta, tc, rfl⟩ := ints_shape HT.out
      have hnl := rdyTo_le l l.length
      rw [show rdyTo l l.length = rdy l from rfl] at hnl
      go_wp2
      by_cases hz : rdy l = []
      · have hn0 : (((rdy l).length : Int) == 0) = true := by rw [hz]; rfl
        have e1 : pickK ts (-1) (rdy l) = -1 := by unfold pickK; rw [if_pos hz]
        have e2 : pickLeft ts (rdy l) = ts := by rw [pickLeft, if_pos hz]
        have e3 : pickLast ts (-1) (rdy l) = -1 := by rw [pickLast, if_pos hz]
        have E1 := Lib.hid e1
        have E2 := Lib.hid e2
        have E3 := Lib.hid e3
        clear e1 e2 e3 hz
        go_loopw [10] (fun i wr => ∃ (k : Nat) (lo' : Value), k ≤ ts.length ∧ i = .int .i64 k ∧ One w wr B ob lo' ts (-1)) (fun i _ => ts.length - (intOf i).toNat)
        case atStart => exact ⟨0, lo, by omega, rfl, hT⟩
        case round =>
          clear hT
          obtain ⟨k, lo', hk, rfl, hT⟩ := hrel
          by_cases hlt : k < ts.length
          · have HR5 := Lib.hid (HR.out.same fun j _ hj => hT.below.block j hj)
            go_wp2_with (first
              | (at_builtin; refine wpList_append_reads _ rfl _ _ 30 rfl wr.heap.size 4 j0 (.bool false) 1 Try.underlying30 hj hy0 hy1 hy2 rfl _ 0 [] rfl (OwnS.nil _ _ _) _ (bools l) rfl HR5.out (bools_one l) ?c3 ?c4 ?c5 ?_))
            case c3 => rw [HBS.out]; unfold maxLen; omega
            case c4 => rw [HBS.out]; omega
            case c5 => exact Nat.le_refl _
            intro vl w5 q1 q2 q3
            have hT5 := hT.fresh q2 (fun k hk => by cases hk)
            have hs5 := q2.size
            rw [HBS.out] at q1
            have hRl := q1.reads
            obtain ⟨ao3, c3, rfl⟩ := bools_shape hRl
            clear q1 q2 q3
            go_wp2_with fail
            refine (pick_val l hT5.o hRl (by omega) (-1) ts (-1) E1.out E2.out E3.out).mono ?_
            rintro e w6 ⟨rfl, hg6, lo2, ho6, hb6⟩
            have hT6 := hT5.pick hg6 ho6 hb6
            clear hg6 ho6 hb6 hT5 hRl
            go_wp2_with (first | (go_at_call 18; refine (left_any ob lo2 ts (-1) w6 hT6.o).mono ?_; rintro e w' ⟨rfl, rfl⟩))
            go_roundw
            case rel => exact ⟨k + 1, lo2, by omega, by go_num, hT6⟩
            case measure => simp [intOf]; omega
          · go_wp2
            go_ret
            exact ⟨rfl, hT.below⟩
      · have hpos : 0 < (rdy l).length := List.length_pos_iff.2 hz
        have hn0 : (((rdy l).length : Int) == 0) = false := by rw [beq_eq_false_iff_ne]; omega
        go_loopw [10] (fun i wr => ∃ (k : Nat) (lo' : Value) (last : Int), k ≤ ts.length ∧ i = .int .i64 k ∧ One w wr B ob lo' (ts.drop k) last) (fun i _ => ts.length - (intOf i).toNat)
        case atStart => exact ⟨0, lo, -1, by omega, rfl, hT⟩
        case round =>
          clear hT
          obtain ⟨k, lo', last, hk, rfl, hT⟩ := hrel
          by_cases hlt : k < ts.length
          · have hd : ts.drop k = ts[k] :: ts.drop (k + 1) := List.drop_eq_getElem_cons hlt
            rw [hd] at hT
            obtain ⟨x, hx⟩ : ∃ x, (rdy l).getD (at_ ts[k] (rdy l).length) 0 = x := ⟨_, rfl⟩
            have hmem := rdy_mem l (at_ ts[k] (rdy l).length) (at_lt _ _ hpos)
            rw [hx] at hmem
            obtain ⟨hx1, hx2⟩ := hmem
            have E1 := Lib.hid (show pickK (ts[k] :: ts.drop (k + 1)) last (rdy l) = (x : Int) by rw [pickK, if_neg hz]; show ((_ : Nat) : Int) = _; rw [hx])
            have E2 := Lib.hid (show pickLeft (ts[k] :: ts.drop (k + 1)) (rdy l) = ts.drop (k + 1) by rw [pickLeft, if_neg hz]; rfl)
            have E3 := Lib.hid (show pickLast (ts[k] :: ts.drop (k + 1)) last (rdy l) = (x : Int) by rw [pickLast, if_neg hz]; exact E1.out)
            obtain ⟨m, hm⟩ : ∃ m, (ts.drop (k + 1)).length = m := ⟨_, rfl⟩
            have hmk : m + (k + 1) = ts.length := by rw [← hm, List.length_drop]; omega
            have hmb : ((m : Int) != (ts.length : Int) - (k : Int) - 1) = false := by rw [bne_eq_false_iff_eq]; omega
            have HM := Lib.hid hm
            obtain ⟨b, o, rfl, hbb⟩ := bools_addr HR.out (by omega)
            have hcl := bools_cell HR.out hx1
            rw [hx2] at hcl
            have HCL := Lib.hid hcl
            clear hd hx hmk hm hx2 hcl
            generalize hrest : ts.drop (k + 1) = rest at *
            have HREST := Lib.hid hrest
            clear hrest
            generalize ts[k] = t0 at *
            have HR5 := Lib.hid (HR.out.same fun j _ hj => hT.below.block j hj)
            go_wp2_with (first
              | (at_builtin; refine wpList_append_reads _ rfl _ _ 30 rfl wr.heap.size 4 j0 (.bool false) 1 Try.underlying30 hj hy0 hy1 hy2 rfl _ 0 [] rfl (OwnS.nil _ _ _) _ (bools l) rfl HR5.out (bools_one l) ?c3 ?c4 ?c5 ?_))
            case c3 => rw [HBS.out]; unfold maxLen; omega
            case c4 => rw [HBS.out]; omega
            case c5 => exact Nat.le_refl _
            intro vl w5 q1 q2 q3
            have hT5 := hT.fresh q2 (fun k hk => by cases hk)
            have hs5 := q2.size
            rw [HBS.out] at q1
            have hRl := q1.reads
            obtain ⟨ao3, c3, rfl⟩ := bools_shape hRl
            clear q1 q2 q3
            go_wp2_with fail
            refine (pick_val l hT5.o hRl (by omega) (x : Int) rest (x : Int) E1.out E2.out E3.out).mono ?_
            rintro e w6 ⟨rfl, hg6, lo2, ho6, hb6⟩
            have hT6 := hT5.pick hg6 ho6 hb6
            have hcx := (hT6.below.cell (p := ⟨b, o + x, none⟩) hbb).trans HCL.out
            clear hg6 ho6 hb6 hT5 hRl
            have hi1 : (0 : Int) ≤ (x : Int) := by omega
            have hi2 : (x : Int) < (l.length : Int) := by omega
            have hi3 : (k : Int) + 1 ≤ (ts.length : Int) := by omega
            go_wp2_with (first | (go_at_call 18; refine (left_val ob lo2 rest (x : Int) m w6 hT6.o HM.out).mono ?_; rintro e w' ⟨rfl, rfl⟩))
            go_roundw
            case rel => exact ⟨k + 1, lo2, x, by omega, by go_num, by rw [HREST.out]; exact hT6⟩
            case measure => simp [intOf]; omega
          · obtain rfl : k = ts.length := by omega
            rw [List.drop_length] at hT
            have hnl' : (rdy l).length ≤ 20000 := by omega
            go_wp2
            obtain ⟨wo, rfl⟩ : ∃ wo : World, wo = wr := ⟨_, rfl⟩
            go_loopw [12] (fun i wr => ∃ (j : Nat) (lo' : Value) (last : Int), (j : Int) ≤ r ∧ i = .int .i64 j ∧ One w wr B ob lo' [] last) (fun i _ => 20 - (intOf i).toNat)
            case atStart => exact ⟨0, lo', last, by omega, rfl, hT⟩
            case round =>
              clear hT
              obtain ⟨j, lo', last, hj', rfl, hT⟩ := hrel
              by_cases hjr : (j : Int) < r
              · go_wp2_with (first | (with_reducible refine wpList_make_full _ rfl _ _ 30 rfl B 4 j0 (.bool false) 1 Try.underlying30 hj hy0 hy1 .i64 .i64 _ _ l.length rfl rfl rfl rfl ?c2 ?c3 ?c4 ?_))
                case c2 => rw [hy2]; omega
                case c3 => unfold maxLen; omega
                case c4 => exact hT.size
                intro wm q1 q2
                have hTm := hT.fresh q2 (fun k hk => by cases hk)
                have hL := LentB.made q1
                have hgB : B ≤ wr.heap.size := hT.size
                obtain ⟨p, hp, hnp⟩ := nxt_place last l hpos
                have hM0 := Met.begin l p
                generalize wr.heap.size = g at *
                clear q1 q2 hT
                go_wp2
                obtain ⟨wi, rfl⟩ : ∃ wi : World, wi = wr := ⟨_, rfl⟩
                have HNP := Lib.hid hnp
                have HM0 := Lib.hid hM0
                clear hnp hM0
                go_loopw [14] (fun i wr => ∃ (t : Nat) (m : List Bool) (lo' : Value) (last : Int), t ≤ (rdy l).length ∧ i = .int .i64 t ∧ One w wr B ob lo' [] last ∧ LentB wr g m 0 ∧ Hid (Met l p t m) ∧ Hid (nxt last (rdy l) = (rdy l).getD ((p + t) % (rdy l).length) 0)) (fun i _ => (rdy l).length - (intOf i).toNat)
                case atStart => exact ⟨0, _, lo', last, by omega, rfl, hTm, hL, HM0, HNP⟩
                case round =>
                  clear hTm hL HM0 HNP
                  obtain ⟨t, m, lo', last, ht, rfl, hT, hL, HM, HN⟩ := hrel
                  by_cases htl : t < (rdy l).length
                  · obtain ⟨x, hx⟩ : ∃ x, (rdy l).getD ((p + t) % (rdy l).length) 0 = x := ⟨_, rfl⟩
                    have hmem := rdy_mem l ((p + t) % (rdy l).length) (Nat.mod_lt _ hpos)
                    have hnm := Met.not HM.out hp htl
                    have hst := Met.step HM.out hpos
                    have hns := nxt_step l ((p + t) % (rdy l).length) (Nat.mod_lt _ hpos)
                    rw [hx] at hmem hnm hst hns
                    rw [Nat.mod_add_mod] at hns
                    obtain ⟨hx1, hx2⟩ := hmem
                    have E1 := Lib.hid (show pickK [] last (rdy l) = (x : Int) by rw [pickK, if_neg hz]; show ((_ : Nat) : Int) = _; rw [HN.out, hx])
                    have E2 := Lib.hid (show pickLeft [] (rdy l) = [] by rw [pickLeft, if_neg hz]; rfl)
                    have E3 := Lib.hid (show pickLast [] last (rdy l) = (x : Int) by rw [pickLast, if_neg hz]; exact E1.out)
                    have hml := HM.out.1
                    obtain ⟨b, o, rfl, hbb⟩ := bools_addr HR.out (by omega)
                    have hcl := bools_cell HR.out hx1
                    rw [hx2] at hcl
                    have HCL := Lib.hid hcl
                    have HML := Lib.hid hml
                    have HNM := Lib.hid hnm
                    have HST := Lib.hid hst
                    have HNS := Lib.hid hns
                    clear hx hx2 hcl hml hnm hst hns
                    have HR5 := Lib.hid (HR.out.same fun j _ hj => hT.below.block j hj)
                    go_wp2_with (first
                      | (at_builtin; refine wpList_append_reads _ rfl _ _ 30 rfl wr.heap.size 4 j0 (.bool false) 1 Try.underlying30 hj hy0 hy1 hy2 rfl _ 0 [] rfl (OwnS.nil _ _ _) _ (bools l) rfl HR5.out (bools_one l) ?c3 ?c4 ?c5 ?_))
                    case c3 => rw [HBS.out]; unfold maxLen; omega
                    case c4 => rw [HBS.out]; omega
                    case c5 => exact Nat.le_refl _
                    intro vl w5 q1 q2 q3
                    have hT5 := hT.fresh q2 (fun k hk => by cases hk)
                    have hs5 := q2.size
                    rw [HBS.out] at q1
                    have hRl := q1.reads
                    obtain ⟨ao3, c3, rfl⟩ := bools_shape hRl
                    have hL5 := hL.kept q2 (fun e => by cases e)
                    clear q1 q2 q3 hL
                    go_wp2_with fail
                    refine (pick_val l hT5.o hRl (by omega) (x : Int) [] (x : Int) E1.out E2.out E3.out).mono ?_
                    rintro e w6 ⟨rfl, hg6, lo2, ho6, hb6⟩
                    have hT6 := hT5.pick hg6 ho6 hb6
                    have hL6 := hL5.kept hg6 (fun e => by have := hT5.obB; cases e; omega)
                    have hcx := (hT6.below.cell (p := ⟨b, o + x, none⟩) hbb).trans HCL.out
                    have hcm := hL6.at (x := x) (by rw [HML.out]; exact hx1)
                    rw [HNM.out] at hcm
                    have hfm := hL6.free x
                    clear hg6 ho6 hb6 hT5 hRl hL5
                    have hi1 : (0 : Int) ≤ (x : Int) := by omega
                    have hi2 : (x : Int) < (l.length : Int) := by omega
                    go_wp2
                    go_roundw
                    case rel => exact ⟨t + 1, m.set x true, lo2, x, by omega, by go_num, hT6.written hgB _ _, hL6.setTrue x true, HST, HNS⟩
                    case measure => simp [intOf]; omega
                  · go_wp2
                    go_roundw
                    case rel => exact ⟨j + 1, lo', last, by omega, by go_num, hT⟩
                    case measure => simp [intOf]; omega
              · go_wp2
                go_ret
                exact ⟨rfl, hT.below⟩
end Go.Proofs.Ytkeipanehjjmdaa
