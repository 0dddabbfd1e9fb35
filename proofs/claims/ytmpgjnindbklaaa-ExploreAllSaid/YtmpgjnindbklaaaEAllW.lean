import Derived.Test.YtmpgjnindbklaaaEREnds
import Derived.Test.YtmpgjnindbklaaaERExp
import Derived.Test.YtmpgjnindbklaaaESameF
import Derived.Test.YtmpgjnindbklaaaEFollowsW
import Derived.Deep.RegionHeld3
namespace Go.Proofs.Ytmpgjnindbklaaa
open Go.RowKit BA Ex

theorem exploreF_len (p : Lt) : (exploreF p).1.turns.length ≤ 1000000 := by
  unfold exploreF
  split
  · cases hg : goes p with
    | none => simp
    | some l =>
      have hr := goes_reach hg
      show (told p l).turns.length ≤ _
      cases hb : (told p l).bad with
      | true => have := (shows_bad hr hb).1; omega
      | false =>
        have hn : l.findIdx? (·.s.bad) = none := by
          cases hf : l.findIdx? (·.s.bad) with
          | none => rfl
          | some j =>
            exfalso
            have hany : l.any (·.s.bad) = true := by
              obtain ⟨hj, hjb, _⟩ := List.findIdx?_eq_some_iff_getElem.1 hf
              exact List.any_eq_true.2 ⟨_, List.getElem_mem hj, hjb⟩
            unfold told at hb
            dsimp only at hb
            rw [hany] at hb
            cases hb
        unfold told
        simp [hn]
  · simp

theorem own_put {w : World} {base n g cap : Nat} {xs : List Value} (h : OwnS w base 1 (.slice (some ⟨g, 0, none⟩) n cap) n xs) (i : Nat) (u : Value) : OwnS (w.setCell ⟨g, i, none⟩ u) base 1 (.slice (some ⟨g, 0, none⟩) n cap) n (xs.set i u) := by
  obtain ⟨te, h0, h1⟩ := h
  rcases h1 with ⟨hh, _⟩ | ⟨g', cap', cur, hv, hg, hb, hn, hcap, hsz, ht⟩
  · cases hh
  cases hv
  refine ⟨te, by simpa using h0, .inr ⟨g, cap, _, rfl, hg, cells_set hb, hn, hcap, by simpa using hsz, ?_⟩⟩
  rw [← ht]
  simp [Array.toList_setIfInBounds, List.take_set]
theorem own_cell1 {w : World} {base n g cap : Nat} {xs : List Value} (h : OwnS w base 1 (.slice (some ⟨g, 0, none⟩) n cap) n xs) {i : Nat} (hi : i < xs.length) : w.cell? ⟨g, i, none⟩ = some (xs.getD i undef) ∧ w.frozen? ⟨g, i, none⟩ = false := by
  obtain ⟨te, h⟩ := h
  have h1 := h.cells (g := g) rfl i (xs.getD i undef) (by simp [List.getD_eq_getElem?_getD, hi])
  rw [Addr.add_lit] at h1
  refine ⟨by simpa using h1, ?_⟩
  rcases h.2 with ⟨hh, _⟩ | ⟨g', cap', cur, hv, hg, hb, _⟩
  · cases hh
  · cases hv
    simp [World.frozen?, hb]

/-- A struct's box. -/
def Bx (w : World) (b : Nat) (t : TypeId) (cs : Array Value) : Prop := w.heap[b]? = some (.cells cs t (0, 0))
theorem Bx.lt {w : World} {b : Nat} {t : TypeId} {cs : Array Value} (h : Bx w b t cs) : b < w.heap.size := by unfold Bx at h; rw [Array.getElem?_eq_some_iff] at h; exact h.1
theorem Bx.more {w w' : World} {b : Nat} {t : TypeId} {cs : Array Value} (h : Bx w b t cs) (hb : Below w.heap.size w w') : Bx w' b t cs := (hb.block b h.lt).trans h
theorem Bx.cell {w : World} {b : Nat} {t : TypeId} {cs : Array Value} (h : Bx w b t cs) {i : Nat} {v : Value} (hv : cs[i]? = some v) : w.cell? ⟨b, i, none⟩ = some v := by
  unfold Bx at h; simp [World.cell?, h, hv]

set_option maxRecDepth 100000 in
set_option maxHeartbeats 4000000 in
theorem exall_walk (sw st : Value) (p : Lt) (w : World) (h : PHas w sw st p) (hin : PIn p) (hw : p.words.length ≤ 281474976710656) (ht : p.threads.length ≤ 281474976710656) (htt : ∀ k, (p.threads.getD k []).length ≤ 281474976710656) :
    Calls Try.prog 3 #[.agg #[sw, st]] w fun e w' => e = .returned (.bool true) ∧ Below w.heap.size w w' := by
  have hR := RChk.begin h
  clear h
  go_enter Try.func3, Try.ntmps3
  go_upto_region 1 with fail
  generalize hW : w.alloc (.cells #[sw, st] 25 (0, 0)) = w1 at hR ⊢
  clear hW
  generalize hN : w.heap.size = N at hR ⊢
  have HN := Lib.hid hN
  clear hN
  go_wp2_with fail
  refine (known_walk w1).mono ?_
  rintro e w2 ⟨rfl, hb2⟩
  have hR2 := hR.more hb2
  have q0 := hR2.cell0
  have q1 := hR2.cell1
  clear hR hb2
  go_wp2_with fail
  refine (small_walk _ _ p w2 hR2.has hw ht htt).mono ?_
  rintro e w3 ⟨rfl, hb3⟩
  have hR3 := hR2.more hb3
  clear hR2 hb3 q0 q1
  cases hs : smallB p with
  | false =>
    have HR3 := Lib.hid hR3
    clear hR3 hs
    go_wp2
    go_ret
    exact ⟨rfl, by rw [HN.out]; exact HR3.out.below⟩
  | true =>
    have q0 := hR3.cell0
    have q1 := hR3.cell1
    have HS := Lib.hid hs
    have HR3 := Lib.hid hR3
    clear hR3 hs
    go_wp2_with fail
    refine (copied_walk _ _ p w3 HR3.out.has HS.out).mono ?_
    rintro e w4 ⟨wv, qv, vs, rfl, hwv, hcp, hb4⟩
    have hN3 : N + 1 ≤ w3.heap.size := by have := HR3.out.box; rw [Array.getElem?_eq_some_iff] at this; exact this.1
    have hone := pair_one (OwnS.one hwv) (OwnS.one hcp.own)
    have hR4 := HR3.out.more hb4
    have h34 := hb4.size
    have hP4 : PHas w4 wv qv p := ⟨OwnS.reads hwv, hcp.threads⟩
    clear hwv hcp hb4
    go_upto_region 6 with (refine wpList_store_row rfl 25 (.tmp 3) (.tmp 21) rfl w4.heap.size #[wv, qv] rfl rfl 25 _ (heap_alloc_new _ _) info_little rfl hone ?_)
    have hb5 : Below w4.heap.size w4 ((w4.alloc (.cells #[.slice none 0 0, .slice none 0 0] 25 (0, 0))).setRow w4.heap.size #[wv, qv]) := below_setRow ((Below.refl _ _).alloc (Nat.le_refl _) _) _ (Nat.le_refl _)
    have hL5 : Bx ((w4.alloc (.cells #[.slice none 0 0, .slice none 0 0] 25 (0, 0))).setRow w4.heap.size #[wv, qv]) w4.heap.size 25 #[wv, qv] := heap_setRow (heap_alloc_new _ _)
    have hR5 := hR4.more hb5
    have hP5 := hP4.below hb5
    generalize (w4.alloc (.cells #[.slice none 0 0, .slice none 0 0] 25)).setRow w4.heap.size #[wv, qv] = w5 at hL5 hR5 hP5 ⊢
    have hL0 : N < w4.heap.size := by omega
    clear hb5
    generalize w4.heap.size = L at hL5 hL0 ⊢
    clear hone hR4 hP4 HR3 q0 q1 h34 hN3
    have q0 := hR5.cell0
    have q1 := hR5.cell1
    have HR5 := Lib.hid hR5
    have hL5lt := hL5.lt
    have HL5 := Lib.hid hL5
    have HP5 := Lib.hid hP5
    have hlen := exploreF_len p
    obtain ⟨hel, hrl⟩ := endsF_len p
    clear hR5 hL5 hP5
    go_wp2_with fail
    refine (refExplore_walk _ _ p w5 HR5.out.has).mono ?_
    rintro e w6 ⟨gv, hb6, rfl, hgv⟩
    obtain ⟨ga, gc, hge⟩ := ints_shape hgv.reads
    subst hge
    have hvo := OwnS.one hgv
    have hr5 := HR5.out.more hb6
    have hl5 := HL5.out.more hb6
    have hp5 := HP5.out.below hb6
    rcases hE : exploreF p with ⟨⟨xs, xe, xb, xt⟩, xr⟩
    rw [hE] at hgv hvo hlen
    dsimp only at hgv hvo hlen ⊢
    generalize hm : xt.length = m at hgv hvo hlen ⊢
    have HM := Lib.hid hm
    have HE := Lib.hid hE
    have HGV := Lib.hid hgv
    have HR6 := Lib.hid hr5
    have HL6 := Lib.hid hl5
    have HP6 := Lib.hid hp5
    have h56 := hb6.size
    clear hm hE hgv hr5 hl5 hp5 hb6 HR5 HL5 HP5 q0 q1
    have hone := found_one xs xe xb _ hvo
    go_upto_region 7 with (refine wpList_store_row rfl 30 (.tmp 4) (.tmp 25) rfl w6.heap.size #[.int .i64 xs, .int .i64 xe, .bool xb, .slice ga m gc] rfl rfl 30 _ (heap_alloc_new _ _) info_found rfl hone ?_)
    have hb7 : Below w6.heap.size w6 ((w6.alloc (.cells #[.int .i64 0, .int .i64 0, .bool false, .slice none 0 0] 30 (0, 0))).setRow w6.heap.size #[.int .i64 xs, .int .i64 xe, .bool xb, .slice ga m gc]) := below_setRow ((Below.refl _ _).alloc (Nat.le_refl _) _) _ (Nat.le_refl _)
    have hG7 : Bx ((w6.alloc (.cells #[.int .i64 0, .int .i64 0, .bool false, .slice none 0 0] 30 (0, 0))).setRow w6.heap.size #[.int .i64 xs, .int .i64 xe, .bool xb, .slice ga m gc]) w6.heap.size 30 #[.int .i64 xs, .int .i64 xe, .bool xb, .slice ga m gc] := heap_setRow (heap_alloc_new _ _)
    have hgv7 := OwnS.below HGV.out hb7
    have hgvb : ∀ k, (Value.slice ga m gc).ownBlock = some k → k < w6.heap.size := fun k hk => (HGV.out.blk k hk).2
    have hr7 := HR6.out.more hb7
    have hl7 := HL6.out.more hb7
    have hp7 := HP6.out.below hb7
    have h67 := hb7.size
    generalize (w6.alloc (.cells #[.int .i64 0, .int .i64 0, .bool false, .slice none 0 0] 30)).setRow w6.heap.size #[.int .i64 xs, .int .i64 xe, .bool xb, .slice ga m gc] = w7 at hG7 hgv7 hr7 hl7 hp7 h67 ⊢
    clear hb7
    generalize w6.heap.size = G at hG7 hgvb h67 h56 ⊢
    have HR7 := Lib.hid hr7
    have HL7 := Lib.hid hl7
    have HP7 := Lib.hid hp7
    have hGlt := hG7.lt
    have HG7 := Lib.hid hG7
    have HGV := Lib.hid (OwnS.reads hgv7)
    have HGVB := Lib.hid hgvb
    have l0 := hl7.cell (i := 0) rfl
    have l1 := hl7.cell (i := 1) rfl
    clear hr7 hl7 hp7 hG7 hgv7 hgvb hone hvo HR6 HL6 HP6
    go_wp2_with fail
    refine (explore_walk _ _ p w7 HP7.out hin).mono ?_
    rintro e w8 ⟨xv, hb8, rfl, hxv⟩
    rw [HE.out] at hxv ⊢
    dsimp only at hxv ⊢
    rw [HM.out] at hxv
    obtain ⟨xa, xc, hxe⟩ : ∃ a c, xv = .slice a m c := by
      obtain ⟨a, c, e⟩ := ints_shape hxv.reads
      exact ⟨a, c, by rw [e, HM.out]⟩
    subst hxe
    have hvo := OwnS.one hxv
    have hone := found_one xs xe xb _ hvo
    have HXV := Lib.hid hxv
    have HR8 := Lib.hid (HR7.out.more hb8)
    have HL8 := Lib.hid (HL7.out.more hb8)
    have HP8 := Lib.hid (HP7.out.below hb8)
    have HG8 := Lib.hid (HG7.out.more hb8)
    have HGV8 := Lib.hid (reads_below HGV.out hb8)
    have h78 := hb8.size
    clear hxv hb8 hvo HR7 HL7 HP7 HG7 HGV l0 l1
    go_upto_region 8 with (refine wpList_store_row rfl 30 (.tmp 6) (.tmp 30) rfl w8.heap.size #[.int .i64 xs, .int .i64 xe, .bool xb, .slice xa m xc] rfl rfl 30 _ (heap_alloc_new _ _) info_found rfl hone ?_)
    have hb9 : Below w8.heap.size w8 ((w8.alloc (.cells #[.int .i64 0, .int .i64 0, .bool false, .slice none 0 0] 30 (0, 0))).setRow w8.heap.size #[.int .i64 xs, .int .i64 xe, .bool xb, .slice xa m xc]) := below_setRow ((Below.refl _ _).alloc (Nat.le_refl _) _) _ (Nat.le_refl _)
    have hX9 : Bx ((w8.alloc (.cells #[.int .i64 0, .int .i64 0, .bool false, .slice none 0 0] 30 (0, 0))).setRow w8.heap.size #[.int .i64 xs, .int .i64 xe, .bool xb, .slice xa m xc]) w8.heap.size 30 #[.int .i64 xs, .int .i64 xe, .bool xb, .slice xa m xc] := heap_setRow (heap_alloc_new _ _)
    have hxv9 := OwnS.below HXV.out hb9
    have hxvb : ∀ k, (Value.slice xa m xc).ownBlock = some k → w7.heap.size ≤ k ∧ k < w8.heap.size := fun k hk => HXV.out.blk k hk
    have hr9 := HR8.out.more hb9
    have hl9 := HL8.out.more hb9
    have hp9 := HP8.out.below hb9
    have hg9 := HG8.out.more hb9
    have hgv9 := reads_below HGV8.out hb9
    have h89 := hb9.size
    generalize (w8.alloc (.cells #[.int .i64 0, .int .i64 0, .bool false, .slice none 0 0] 30)).setRow w8.heap.size #[.int .i64 xs, .int .i64 xe, .bool xb, .slice xa m xc] = w9 at hX9 hxv9 hr9 hl9 hp9 hg9 hgv9 h89 ⊢
    clear hb9
    generalize w8.heap.size = X at hX9 hxvb h89 h78 ⊢
    generalize w7.heap.size = B7 at hxv9 hxvb h78 h67 hGlt
    -- region 8
    have hXL := hX9.lt
    have hq : ∀ w', Below w9.heap.size w9 w' → w'.cell? ⟨N, 0, none⟩ = some sw ∧ w'.cell? ⟨N, 1, none⟩ = some st ∧ w'.cell? ⟨L, 0, none⟩ = some wv ∧ w'.cell? ⟨L, 1, none⟩ = some qv ∧ w'.cell? ⟨G, 0, none⟩ = some (.int .i64 xs) ∧ w'.cell? ⟨G, 1, none⟩ = some (.int .i64 xe) ∧ w'.cell? ⟨G, 2, none⟩ = some (.bool xb) ∧ w'.cell? ⟨G, 3, none⟩ = some (.slice ga m gc) ∧ w'.cell? ⟨X, 0, none⟩ = some (.int .i64 xs) ∧ w'.cell? ⟨X, 1, none⟩ = some (.int .i64 xe) ∧ w'.cell? ⟨X, 2, none⟩ = some (.bool xb) ∧ w'.cell? ⟨X, 3, none⟩ = some (.slice xa m xc) := fun w' hb =>
      ⟨(hr9.more hb).cell0, (hr9.more hb).cell1, (hl9.more hb).cell (i := 0) rfl, (hl9.more hb).cell (i := 1) rfl, (hg9.more hb).cell (i := 0) rfl, (hg9.more hb).cell (i := 1) rfl, (hg9.more hb).cell (i := 2) rfl, (hg9.more hb).cell (i := 3) rfl, (hX9.more hb).cell (i := 0) rfl, (hX9.more hb).cell (i := 1) rfl, (hX9.more hb).cell (i := 2) rfl, (hX9.more hb).cell (i := 3) rfl⟩
    have hsf : ∀ w', Below w9.heap.size w9 w' → Calls Try.prog 12 #[.agg #[.int .i64 xs, .int .i64 xe, .bool xb, .slice xa m xc], .agg #[.int .i64 xs, .int .i64 xe, .bool xb, .slice ga m gc]] w' fun e w'' => e = .returned (.bool true) ∧ Below w'.heap.size w' w'' := fun w' hb => by
      have := sameFound_walk xs xe xs xe xb xb (.slice xa m xc) (.slice ga m gc) xt xt w' (reads_below (OwnS.reads hxv9) hb) (reads_below hgv9 hb) (by rw [HM.out]; exact hlen)
      rw [decide_eq_true rfl] at this
      simpa using this
    have hck : ∀ w', Below w9.heap.size w9 w' → Calls Try.prog 13 #[.agg #[wv, qv]] w' fun e w'' => e = .returned (.int .i64 (chkE p)) ∧ Below w'.heap.size w' w'' := fun w' hb => check_walk _ _ p w' (hp9.below hb)
    have hrc : ∀ w', Below w9.heap.size w9 w' → Calls Try.prog 14 #[.agg #[sw, st]] w' fun e w'' => e = .returned (.bool (check p)) ∧ Below w'.heap.size w' w'' := fun w' hb => refCheck_walk _ _ p w' (hr9.more hb).has
    have hc1 : (chkE p == 0) = check p := by unfold chkE; cases check p <;> rfl
    have hc2 : decide (chkE p = 0) = check p := by unfold chkE; cases check p <;> rfl
    have hc3 : ((chkE p != 0) == !check p) = true := by unfold chkE; cases check p <;> rfl
    have hc4 : (!((chkE p != 0) == !check p)) = false := by unfold chkE; cases check p <;> rfl
    have hc5 : (chkE p != 0) = !check p := by unfold chkE; cases check p <;> rfl
    generalize chkE p = ce at hck hc1 hc2 hc3 hc4 hc5
    generalize check p = ck at hrc hc1 hc2 hc3 hc4 hc5
    have HQ := Lib.hid hq
    have HSF := Lib.hid hsf
    have HCK := Lib.hid hck
    have HRC := Lib.hid hrc
    have HR9 := Lib.hid hr9
    have HL9 := Lib.hid hl9
    have HP9 := Lib.hid hp9
    have HG9 := Lib.hid hg9
    have HX9 := Lib.hid hX9
    have HGV9 := Lib.hid hgv9
    have HXV9 := Lib.hid hxv9
    have HXVB := Lib.hid hxvb
    clear hq hsf hck hrc hr9 hl9 hp9 hg9 hX9 hgv9 hxv9 hxvb hone HXV HR8 HL8 HP8 HG8 HGV8
    go_wp2_with fail
    refine wp_region_noPanic ?_
    refine wp_region_held_drew (S := fun w' => Below w9.heap.size w9 w') (by kernel_rfl) ?_ (fun hHeld => ?_)
    · exact (Below.refl _ _).drew
    refine wpAnyH_take (i := 0) (oi := { dst := some 32, op := _, type := _, pos := _, after := _, guard := none }) (v := ?_) rfl (by kernel_rfl) (by kernel_rfl) (by kernel_rfl) (fun _ _ _ h => h) (Or.inl ⟨by rfl, ?_⟩) (by assumption) ?_
    rotate_left
    · (intro w hSw; (try dsimp only at hSw); go_simp; try with_reducible rfl)
    simp only [Act.put, List.setIfInBounds_toArray, List.set_cons_zero, List.set_cons_succ]
    refine wpAnyH_take (i := 1) (oi := { dst := some 33, op := _, type := _, pos := _, after := _, guard := none }) (v := ?_) rfl (by kernel_rfl) (by kernel_rfl) (by kernel_rfl) (fun _ _ _ h => h) (Or.inl ⟨by rfl, ?_⟩) (by assumption) ?_
    rotate_left
    · (intro w hSw; (try dsimp only at hSw); go_simp; try with_reducible rfl)
    simp only [Act.put, List.setIfInBounds_toArray, List.set_cons_zero, List.set_cons_succ]
    refine wpAnyH_take (i := 2) (oi := { dst := some 34, op := _, type := _, pos := _, after := _, guard := none }) (v := ?_) rfl (by kernel_rfl) (by kernel_rfl) (by kernel_rfl) (fun _ _ _ h => h) (Or.inl ⟨by rfl, ?_⟩) (by assumption) ?_
    rotate_left
    · (intro w hSw; (try dsimp only at hSw); go_simp; try with_reducible rfl)
    simp only [Act.put, List.setIfInBounds_toArray, List.set_cons_zero, List.set_cons_succ]
    refine wpAnyH_take (i := 3) (oi := { dst := some 35, op := _, type := _, pos := _, after := _, guard := none }) (v := ?_) rfl (by kernel_rfl) (by kernel_rfl) (by kernel_rfl) (fun _ _ _ h => h) (Or.inl ⟨by rfl, ?_⟩) (by assumption) ?_
    rotate_left
    · (intro w hSw; (try dsimp only at hSw); go_simp; try with_reducible rfl)
    simp only [Act.put, List.setIfInBounds_toArray, List.set_cons_zero, List.set_cons_succ]
    refine wpAnyH_take (i := 4) (oi := { dst := some 36, op := _, type := _, pos := _, after := _, guard := some (3, false) }) (v := ?_) rfl (by kernel_rfl) (by kernel_rfl) (by kernel_rfl) (fun _ _ _ h => h) (Or.inl ⟨by rfl, ?_⟩) (by assumption) ?_
    rotate_left
    · (intro w hSw; obtain ⟨n0, n1, l0, l1, g0, g1, g2, g3, x0, x1, x2, x3⟩ := HQ.out w hSw; clear hSw; go_simp; try with_reducible rfl)
    simp only [Act.put, List.setIfInBounds_toArray, List.set_cons_zero, List.set_cons_succ]
    refine wpAnyH_take (i := 5) (oi := { dst := some 37, op := _, type := _, pos := _, after := _, guard := some (3, false) }) (v := ?_) rfl (by kernel_rfl) (by kernel_rfl) (by kernel_rfl) (fun _ _ _ h => h) (Or.inl ⟨by rfl, ?_⟩) (by assumption) ?_
    rotate_left
    · (intro w hSw; obtain ⟨n0, n1, l0, l1, g0, g1, g2, g3, x0, x1, x2, x3⟩ := HQ.out w hSw; clear hSw; go_simp; try with_reducible rfl)
    simp only [Act.put, List.setIfInBounds_toArray, List.set_cons_zero, List.set_cons_succ]
    refine wpAnyH_ready (rs := [6]) (by kernel_rfl) (by simp) ?_
    refine AllReadyH.cons (o := { dst := some 38, op := _, type := _, pos := _, after := _, guard := some (3, false) }) rfl (fun K hK => ?_) ?_
    rotate_left
    · exact AllReadyH.nil
    go_simp
    refine (HSF.out _ hHeld).mono ?_
    rintro e wa ⟨rfl, hbwa⟩
    go_wp2_with fail
    refine hK.out _ _ ?_ (fun hHeld' => ?_)
    · exact hHeld.trans (hbwa.mono hHeld.size)
    clear hHeld hK K
    have hHeld := hHeld'
    clear hHeld'
    try simp only [Act.put, List.setIfInBounds_toArray, List.set_cons_zero, List.set_cons_succ]
    refine wpAnyH_take (i := 7) (oi := { dst := some 39, op := _, type := _, pos := _, after := _, guard := some (3, false) }) (v := ?_) rfl (by kernel_rfl) (by kernel_rfl) (by kernel_rfl) (fun _ _ _ h => h) (Or.inl ⟨by rfl, ?_⟩) (by assumption) ?_
    rotate_left
    · (intro w hSw; (try dsimp only at hSw); go_simp; try with_reducible rfl)
    simp only [Act.put, List.setIfInBounds_toArray, List.set_cons_zero, List.set_cons_succ]
    refine wpAnyH_take (i := 8) (oi := { dst := some 40, op := _, type := _, pos := _, after := _, guard := none }) (v := ?_) rfl (by kernel_rfl) (by kernel_rfl) (by kernel_rfl) (fun _ _ _ h => h) (Or.inl ⟨by rfl, ?_⟩) (by assumption) ?_
    rotate_left
    · (intro w hSw; (try dsimp only at hSw); go_simp; try with_reducible rfl)
    simp only [Act.put, List.setIfInBounds_toArray, List.set_cons_zero, List.set_cons_succ]
    refine wpAnyH_take (i := 9) (oi := { dst := some 41, op := _, type := _, pos := _, after := _, guard := none }) (v := ?_) rfl (by kernel_rfl) (by kernel_rfl) (by kernel_rfl) (fun _ _ _ h => h) (Or.inl ⟨by rfl, ?_⟩) (by assumption) ?_
    rotate_left
    · (intro w hSw; (try dsimp only at hSw); go_simp; try with_reducible rfl)
    simp only [Act.put, List.setIfInBounds_toArray, List.set_cons_zero, List.set_cons_succ]
    refine wpAnyH_take (i := 10) (oi := { dst := some 42, op := _, type := _, pos := _, after := _, guard := some (9, false) }) (v := ?_) rfl (by kernel_rfl) (by kernel_rfl) (by kernel_rfl) (fun _ _ _ h => h) (Or.inl ⟨by rfl, ?_⟩) (by assumption) ?_
    rotate_left
    · (intro w hSw; obtain ⟨n0, n1, l0, l1, g0, g1, g2, g3, x0, x1, x2, x3⟩ := HQ.out w hSw; clear hSw; go_simp; try with_reducible rfl)
    simp only [Act.put, List.setIfInBounds_toArray, List.set_cons_zero, List.set_cons_succ]
    refine wpAnyH_take (i := 13) (oi := { dst := some 45, op := _, type := _, pos := _, after := _, guard := some (9, false) }) (v := ?_) rfl (by kernel_rfl) (by kernel_rfl) (by kernel_rfl) (fun _ _ _ h => h) (Or.inl ⟨by rfl, ?_⟩) (by assumption) ?_
    rotate_left
    · (intro w hSw; obtain ⟨n0, n1, l0, l1, g0, g1, g2, g3, x0, x1, x2, x3⟩ := HQ.out w hSw; clear hSw; go_simp; try with_reducible rfl)
    simp only [Act.put, List.setIfInBounds_toArray, List.set_cons_zero, List.set_cons_succ]
    refine wpAnyH_ready (rs := [11]) (by kernel_rfl) (by simp) ?_
    refine AllReadyH.cons (o := { dst := some 43, op := _, type := _, pos := _, after := _, guard := some (9, false) }) rfl (fun K hK => ?_) ?_
    rotate_left
    · exact AllReadyH.nil
    go_simp
    refine (HCK.out _ hHeld).mono ?_
    rintro e wb ⟨rfl, hbwb⟩
    go_wp2_with fail
    refine hK.out _ _ ?_ (fun hHeld' => ?_)
    · exact hHeld.trans (hbwb.mono hHeld.size)
    clear hHeld hK K
    have hHeld := hHeld'
    clear hHeld'
    try simp only [Act.put, List.setIfInBounds_toArray, List.set_cons_zero, List.set_cons_succ]
    refine wpAnyH_take (i := 12) (oi := { dst := some 44, op := _, type := _, pos := _, after := _, guard := some (9, false) }) (v := ?_) rfl (by kernel_rfl) (by kernel_rfl) (by kernel_rfl) (fun _ _ _ h => h) (Or.inl ⟨by rfl, ?_⟩) (by assumption) ?_
    rotate_left
    · (intro w hSw; (try dsimp only at hSw); go_simp; try with_reducible rfl)
    simp only [Act.put, List.setIfInBounds_toArray, List.set_cons_zero, List.set_cons_succ]
    refine wpAnyH_ready (rs := [14]) (by kernel_rfl) (by simp) ?_
    refine AllReadyH.cons (o := { dst := some 46, op := _, type := _, pos := _, after := _, guard := some (9, false) }) rfl (fun K hK => ?_) ?_
    rotate_left
    · exact AllReadyH.nil
    go_simp
    refine (HRC.out _ hHeld).mono ?_
    rintro e wc ⟨rfl, hbwc⟩
    go_wp2_with fail
    refine hK.out _ _ ?_ (fun hHeld' => ?_)
    · exact hHeld.trans (hbwc.mono hHeld.size)
    clear hHeld hK K
    have hHeld := hHeld'
    clear hHeld'
    try simp only [Act.put, List.setIfInBounds_toArray, List.set_cons_zero, List.set_cons_succ]
    refine wpAnyH_take (i := 15) (oi := { dst := some 47, op := _, type := _, pos := _, after := _, guard := some (9, false) }) (v := ?_) rfl (by kernel_rfl) (by kernel_rfl) (by kernel_rfl) (fun _ _ _ h => h) (Or.inl ⟨by rfl, ?_⟩) (by assumption) ?_
    rotate_left
    · (intro w hSw; (try dsimp only at hSw); go_simp; try with_reducible rfl)
    simp only [Act.put, List.setIfInBounds_toArray, List.set_cons_zero, List.set_cons_succ]
    refine wpAnyH_take (i := 16) (oi := { dst := some 48, op := _, type := _, pos := _, after := _, guard := some (9, false) }) (v := ?_) rfl (by kernel_rfl) (by kernel_rfl) (by kernel_rfl) (fun _ _ _ h => h) (Or.inl ⟨by rfl, ?_⟩) (by assumption) ?_
    rotate_left
    · (intro w hSw; (try dsimp only at hSw); go_simp; try with_reducible rfl)
    simp only [Act.put, List.setIfInBounds_toArray, List.set_cons_zero, List.set_cons_succ]
    refine wpAnyH_take (i := 17) (oi := { dst := some 49, op := _, type := _, pos := _, after := _, guard := none }) (v := ?_) rfl (by kernel_rfl) (by kernel_rfl) (by kernel_rfl) (fun _ _ _ h => h) (Or.inl ⟨by rfl, ?_⟩) (by assumption) ?_
    rotate_left
    · (intro w hSw; (try dsimp only at hSw); go_simp; try with_reducible rfl)
    simp only [Act.put, List.setIfInBounds_toArray, List.set_cons_zero, List.set_cons_succ]
    refine wpAnyH_done (by kernel_rfl) ?_ _
    refine NoPanic.normal ?_
    have hw10 : ∃ w10 : World, w10 = wc := ⟨_, rfl⟩
    obtain ⟨w10, rfl⟩ := hw10
    have hr := HR9.out.more hHeld
    have HR10 := Lib.hid hr
    have HL10 := Lib.hid (HL9.out.more hHeld)
    have HP10 := Lib.hid (HP9.out.below hHeld)
    have HG10 := Lib.hid (HG9.out.more hHeld)
    have HX10 := Lib.hid (HX9.out.more hHeld)
    have HGV10 := Lib.hid (reads_below HGV9.out hHeld)
    have HXV10 := Lib.hid (OwnS.below HXV9.out hHeld)
    have h910 := hHeld.size
    have q0 := hr.cell0
    have q1 := hr.cell1
    clear hr hHeld hbwa hbwb hbwc HR9 HL9 HP9 HG9 HX9 HGV9 HXV9 HQ HSF HCK HRC
    have hLt := HL10.out.lt
    clear hc1 hc2
    go_wp2_with fail
    obtain ⟨Z, hZ⟩ : ∃ Z : Nat, Z = ((Value.slice xa m xc).ownBlock).getD N := ⟨_, rfl⟩
    have hZX : Z < w10.heap.size := by
      rw [hZ]
      cases hxo : (Value.slice xa m xc).ownBlock with
      | none => show N < _; omega
      | some k => have := (HXVB.out k hxo).2; show k < _; omega
    have HZ := Lib.hid hZ
    clear hZ
    rcases hF : endsF p with ⟨rows, er⟩
    rw [hF] at hel hrl
    dsimp only at hel hrl
    have HF := Lib.hid hF
    clear hF
    refine (refEnds_walk Z _ _ p w10 hZX HR10.out.has).mono ?_
    rintro e w11 ⟨lv, hb11, rfl, hlv⟩
    rw [HF.out] at hlv ⊢
    dsimp only at hlv ⊢
    have HR11 := Lib.hid (HR10.out.more hb11)
    have HL11 := Lib.hid (HL10.out.more hb11)
    have HP11 := Lib.hid (HP10.out.below hb11)
    have HG11 := Lib.hid (HG10.out.more hb11)
    have HX11 := Lib.hid (HX10.out.more hb11)
    have HGV11 := Lib.hid (reads_below HGV10.out hb11)
    have HXV11 := Lib.hid (OwnS.below HXV10.out hb11)
    have HLV11 := Lib.hid hlv
    have h1011 := hb11.size
    have l0 := HL11.out.cell (i := 0) rfl
    have l1 := HL11.out.cell (i := 1) rfl
    clear hlv hb11 q0 q1 HR10 HL10 HP10 HG10 HX10 HGV10 HXV10
    go_wp2_with fail
    refine (ends_walk _ _ p w11 HP11.out hin).mono ?_
    rintro e w12 ⟨mv, ms, hb12, rfl, hmv⟩
    rw [HF.out] at hmv ⊢
    dsimp only at hmv ⊢
    have hr12 := HR11.out.more hb12
    have hl12 := HL11.out.more hb12
    have hp12 := HP11.out.below hb12
    have hg12 := HG11.out.more hb12
    have hx12 := HX11.out.more hb12
    have HGV12 := Lib.hid (reads_below HGV11.out hb12)
    have HXV12 := Lib.hid (OwnS.below HXV11.out hb12)
    have hlv12 := HLV11.out.below hb12
    have h1112 := hb12.size
    have hq : ∀ w', Below w12.heap.size w12 w' → w'.cell? ⟨N, 0, none⟩ = some sw ∧ w'.cell? ⟨N, 1, none⟩ = some st ∧ w'.cell? ⟨L, 0, none⟩ = some wv ∧ w'.cell? ⟨L, 1, none⟩ = some qv ∧ w'.cell? ⟨G, 0, none⟩ = some (.int .i64 xs) ∧ w'.cell? ⟨G, 1, none⟩ = some (.int .i64 xe) ∧ w'.cell? ⟨G, 2, none⟩ = some (.bool xb) ∧ w'.cell? ⟨G, 3, none⟩ = some (.slice ga m gc) ∧ w'.cell? ⟨X, 0, none⟩ = some (.int .i64 xs) ∧ w'.cell? ⟨X, 1, none⟩ = some (.int .i64 xe) ∧ w'.cell? ⟨X, 2, none⟩ = some (.bool xb) ∧ w'.cell? ⟨X, 3, none⟩ = some (.slice xa m xc) := fun w' hb =>
      ⟨(hr12.more hb).cell0, (hr12.more hb).cell1, (hl12.more hb).cell (i := 0) rfl, (hl12.more hb).cell (i := 1) rfl, (hg12.more hb).cell (i := 0) rfl, (hg12.more hb).cell (i := 1) rfl, (hg12.more hb).cell (i := 2) rfl, (hg12.more hb).cell (i := 3) rfl, (hx12.more hb).cell (i := 0) rfl, (hx12.more hb).cell (i := 1) rfl, (hx12.more hb).cell (i := 2) rfl, (hx12.more hb).cell (i := 3) rfl⟩
    have hrw : ∀ w', Below w12.heap.size w12 w' → Calls Try.prog 17 #[mv, lv] w' fun e w'' => e = .returned (.bool true) ∧ Below w'.heap.size w' w'' := fun w' hb => by
      have := rows_walk mv lv rows rows w' (hmv.igrid.below hb) (hlv12.igrid.below hb) hel hrl
      rwa [decide_eq_true rfl] at this
    have hsm : ∀ w', Below w12.heap.size w12 w' → Calls Try.prog 18 #[.agg #[wv, qv], .agg #[sw, st]] w' fun e w'' => e = .returned (.bool true) ∧ Below w'.heap.size w' w'' := fun w' hb => same_walk _ _ _ _ p w' (hp12.below hb) (hr12.more hb).has HS.out
    have HQ := Lib.hid hq
    have HRW := Lib.hid hrw
    have HSM := Lib.hid hsm
    have HR12 := Lib.hid hr12
    have HL12 := Lib.hid hl12
    have HP12 := Lib.hid hp12
    have HG12 := Lib.hid hg12
    have HX12 := Lib.hid hx12
    have HBK := Lib.hid hb12
    have HMV12 := Lib.hid hmv
    obtain ⟨la, lc, hle⟩ := hlv12.shape
    obtain ⟨ma, mc, hme⟩ := hmv.igrid.shape
    subst hle hme
    clear hq hrw hsm hr12 hl12 hp12 hg12 hx12 hlv12 hmv hb12 l0 l1 HR11 HL11 HP11 HG11 HX11 HGV11 HXV11
    generalize hrn : rows.length = rn at hel HLV11 HMV12 HRW
    have HRN := Lib.hid hrn
    clear hrn
    go_wp2_with fail
    refine (HRW.out _ (Below.refl _ _)).mono ?_
    rintro e wa ⟨rfl, hbwa⟩
    obtain ⟨n0, n1, l0, l1, g0, g1, g2, g3, x0, x1, x2, x3⟩ := HQ.out wa hbwa
    clear g0 g1 g2 g3 x0 x1 x2 x3
    go_wp2_with fail
    refine (HSM.out wa hbwa).mono ?_
    rintro e wb ⟨rfl, hbwb⟩
    have hHeld := hbwa.trans (hbwb.mono hbwa.size)
    clear n0 n1 l0 l1
    obtain ⟨w13, hw13⟩ : ∃ w13 : World, w13 = wb := ⟨_, rfl⟩
    subst hw13
    have HR13 := Lib.hid (HR12.out.more hHeld)
    have HL13 := Lib.hid (HL12.out.more hHeld)
    have HP13 := Lib.hid (HP12.out.below hHeld)
    have HG13 := Lib.hid (HG12.out.more hHeld)
    have HX13 := Lib.hid (HX12.out.more hHeld)
    have HGV13 := Lib.hid (reads_below HGV12.out hHeld)
    have HXV13 := Lib.hid (OwnS.below HXV12.out hHeld)
    have HBK := Lib.hid (HBK.out.trans (hHeld.mono HBK.out.size))
    have HMV13 := Lib.hid (HMV12.out.below hHeld)
    have h1213 := hHeld.size
    have l0 := HL13.out.cell (i := 0) rfl
    have l1 := HL13.out.cell (i := 1) rfl
    clear hHeld hbwa hbwb HR12 HL12 HP12 HG12 HX12 HGV12 HXV12 HQ HRW HSM
    go_wp2_with fail
    refine (explore_walk _ _ p w13 HP13.out hin).mono ?_
    rintro e w14 ⟨av, hb14, rfl, hav⟩
    rw [HE.out] at hav ⊢
    dsimp only at hav ⊢
    rw [HM.out] at hav
    obtain ⟨aa, ac, hae⟩ : ∃ a c, av = .slice a m c := by
      obtain ⟨a, c, e⟩ := ints_shape hav.reads
      exact ⟨a, c, by rw [e, HM.out]⟩
    subst hae
    have hvo := OwnS.one hav
    have hone := found_one xs xe xb _ hvo
    have HAV := Lib.hid hav
    have HR14 := Lib.hid (HR13.out.more hb14)
    have HL14 := Lib.hid (HL13.out.more hb14)
    have HP14 := Lib.hid (HP13.out.below hb14)
    have HG14 := Lib.hid (HG13.out.more hb14)
    have HX14 := Lib.hid (HX13.out.more hb14)
    have HGV14 := Lib.hid (reads_below HGV13.out hb14)
    have HXV14 := Lib.hid (OwnS.below HXV13.out hb14)
    have HBK := Lib.hid (HBK.out.trans (hb14.mono HBK.out.size))
    have HMV14 := Lib.hid (HMV13.out.below hb14)
    have h1314 := hb14.size
    clear hav hb14 hvo l0 l1 HR13 HL13 HP13 HG13 HX13 HGV13 HXV13 HMV13
    go_upto_region 15 with (refine wpList_store_row rfl 30 (.tmp 10) (.tmp 78) rfl w14.heap.size #[.int .i64 xs, .int .i64 xe, .bool xb, .slice aa m ac] rfl rfl 30 _ (heap_alloc_new _ _) info_found rfl hone ?_)
    have hb15 : Below w14.heap.size w14 ((w14.alloc (.cells #[.int .i64 0, .int .i64 0, .bool false, .slice none 0 0] 30 (0, 0))).setRow w14.heap.size #[.int .i64 xs, .int .i64 xe, .bool xb, .slice aa m ac]) := below_setRow ((Below.refl _ _).alloc (Nat.le_refl _) _) _ (Nat.le_refl _)
    have hA15 : Bx ((w14.alloc (.cells #[.int .i64 0, .int .i64 0, .bool false, .slice none 0 0] 30 (0, 0))).setRow w14.heap.size #[.int .i64 xs, .int .i64 xe, .bool xb, .slice aa m ac]) w14.heap.size 30 #[.int .i64 xs, .int .i64 xe, .bool xb, .slice aa m ac] := heap_setRow (heap_alloc_new _ _)
    have hav15 := OwnS.below HAV.out hb15
    have hr15 := HR14.out.more hb15
    have hl15 := HL14.out.more hb15
    have hp15 := HP14.out.below hb15
    have hg15 := HG14.out.more hb15
    have hx15 := HX14.out.more hb15
    have hgv15 := reads_below HGV14.out hb15
    have hxv15 := OwnS.below HXV14.out hb15
    have hbk := HBK.out.trans (hb15.mono HBK.out.size)
    have hmv15 := HMV14.out.below hb15
    have h1415 := hb15.size
    generalize (w14.alloc (.cells #[.int .i64 0, .int .i64 0, .bool false, .slice none 0 0] 30)).setRow w14.heap.size #[.int .i64 xs, .int .i64 xe, .bool xb, .slice aa m ac] = w15 at hA15 hav15 hr15 hl15 hp15 hg15 hx15 hgv15 hxv15 hbk hmv15 h1415 ⊢
    clear hb15
    generalize w14.heap.size = A at hA15 h1415 h1314 ⊢
    have HAV := Lib.hid hav15
    have HA15 := Lib.hid hA15
    have HR15 := Lib.hid hr15
    have HL15 := Lib.hid hl15
    have HP15 := Lib.hid hp15
    have HG15 := Lib.hid hg15
    have HX15 := Lib.hid hx15
    have HGV15 := Lib.hid hgv15
    have HXV15 := Lib.hid hxv15
    have HBK := Lib.hid hbk
    have HMV15 := Lib.hid hmv15
    have l0 := hl15.cell (i := 0) rfl
    have l1 := hl15.cell (i := 1) rfl
    clear hav15 hA15 hr15 hl15 hp15 hg15 hx15 hgv15 hxv15 hbk hmv15 hone HR14 HL14 HP14 HG14 HX14 HGV14 HXV14 HMV14
    go_wp2_with fail
    refine (ends_walk _ _ p w15 HP15.out hin).mono ?_
    rintro e w16 ⟨rv, us, hb16, rfl, hrv⟩
    rw [HF.out] at hrv ⊢
    dsimp only at hrv ⊢
    have HRV := Lib.hid hrv
    have HAV16 := Lib.hid (OwnS.below HAV.out hb16)
    have HA16 := Lib.hid (HA15.out.more hb16)
    have HR16 := Lib.hid (HR15.out.more hb16)
    have HG16 := Lib.hid (HG15.out.more hb16)
    have HX16 := Lib.hid (HX15.out.more hb16)
    have HGV16 := Lib.hid (reads_below HGV15.out hb16)
    have HXV16 := Lib.hid (OwnS.below HXV15.out hb16)
    have HBK := Lib.hid (HBK.out.trans (hb16.mono HBK.out.size))
    have HMV16 := Lib.hid (HMV15.out.below hb16)
    have h1516 := hb16.size
    clear hrv hb16 l0 l1 HAV HA15 HR15 HL15 HP15 HG15 HX15 HGV15 HXV15 HMV15
    obtain ⟨ra, rc, hre⟩ := HRV.out.igrid.shape
    rw [HRN.out] at hre
    subst hre
    have hmb : ∀ u ∈ ms, ∀ k, u.ownBlock = some k → w11.heap.size ≤ k ∧ k < w12.heap.size := fun u hu k hk => by
      obtain ⟨i, hi, he⟩ := List.getElem_of_mem hu
      have hl : i < rows.length := by have := HMV12.out.own.len; have := HRN.out; omega
      exact (HMV12.out.rows i u rows[i] (by rw [← he]; exact List.getElem?_eq_getElem hi) (List.getElem?_eq_getElem hl)).1.blk k hk
    have HMB := Lib.hid hmb
    clear hmb
    -- what is written over: x's turns
    go_wp2_with fail
    go_loopw [14] (fun iv wr => ∃ (i : Nat) (ys : List Value), i ≤ m ∧ iv = .int .i64 i ∧ ys.length = m ∧ OwnS wr B7 1 (.slice xa m xc) m ys ∧ w16.grownBy wr (Value.slice xa m xc).ownBlock) (fun iv _ => m - (intOf iv).toNat)
    case atStart => exact ⟨0, ints xt, by omega, rfl, by have := HM.out; simpa [ints] using this, HXV16.out, ⟨rfl, rfl, rfl, Nat.le_refl _, fun _ _ _ => rfl⟩⟩
    case round =>
      obtain ⟨i, ys, him, rfl, hyl, hown, hgr⟩ := hrel
      have hXX : (Value.slice xa m xc).ownBlock ≠ some X := fun e => by have := (HXVB.out X e).2; omega
      have hX16 := HX16.out.lt
      have hxb : Bx wr X 30 #[.int .i64 xs, .int .i64 xe, .bool xb, .slice xa m xc] := (hgr.block X hX16 (Ne.symm hXX)).trans HX16.out
      have x3 := hxb.cell (i := 3) rfl
      by_cases hlt : i < m
      · obtain ⟨g', hg'⟩ : ∃ g, xa = some ⟨g, 0, none⟩ := by
          obtain ⟨te, _, h1⟩ := hown
          rcases h1 with ⟨_, h0⟩ | ⟨g, cap, cur, hv, _⟩
          · omega
          · cases hv; exact ⟨g, rfl⟩
        subst hg'
        obtain ⟨c1, f1⟩ := own_cell1 hown (i := i) (by omega)
        have hset := own_put hown i (.int .i64 (-55))
        have hgs : w16.grownBy (wr.setCell ⟨g', i, none⟩ (.int .i64 (-55))) (some g') := grown_trans hgr (grown_set wr g' i _)
        have hyl' : (ys.set i (.int .i64 (-55))).length = m := by rw [List.length_set]; exact hyl
        have HSET := Lib.hid hset
        have HGS := Lib.hid hgs
        have HYL := Lib.hid hyl'
        have hili : (i : Int) < (m : Int) := by omega
        clear hset hgs hyl' hown hgr hyl hxb hXX
        go_wp2
        go_roundw
        case rel => exact ⟨i + 1, _, by omega, by go_num, HYL.out, HSET.out, HGS.out⟩
        case measure => simp [intOf]; omega
      · obtain rfl : i = m := by omega
        have hmv17 : OwnG wr w11.heap.size (.slice ma rn mc) ms rows := HMV16.out.low hgr (fun k hk => by have := (HXVB.out k hk).2; omega)
        have HGR := Lib.hid hgr
        have HMV17 := Lib.hid hmv17
        clear hmv17 hgr hown hyl hxb hXX
        go_wp2_with fail
        refine (spoil_walk _ ms rows w11.heap.size wr HMV17.out (by have := HRN.out; omega) hrl).mono ?_
        rintro e w18 ⟨⟨u, rfl⟩, hsp⟩
        have hun : ∀ k, k < w16.heap.size → (Value.slice xa i xc).ownBlock ≠ some k → (k < w11.heap.size ∨ w12.heap.size ≤ k) → w18.heap[k]? = w16.heap[k]? := fun k hk h1 h2 => by
          have hs := HGR.out.size
          rw [hsp.block k (by omega) (fun u hu e => by have := HMB.out u hu k e; omega)]
          exact HGR.out.block k hk (Ne.symm h1)
        have hbel : Below w.heap.size w w18 := by
          have hb := HR16.out.below
          rw [← HN.out] at hb
          have hn := HN.out
          refine ⟨hsp.os.trans (HGR.out.os.trans hb.os), hsp.tape.trans (HGR.out.tape.trans hb.tape), hsp.output.trans (HGR.out.output.trans hb.output), Nat.le_trans hb.size (Nat.le_trans HGR.out.size hsp.size), fun k hk => ?_⟩
          rw [hun k (by omega) (fun e => by have := (HXVB.out k e).1; omega) (.inl (by omega))]
          exact hb.block k hk
        have hoff : ∀ k, k < B7 → (Value.slice xa i xc).ownBlock ≠ some k := fun k hk e => by have := (HXVB.out k e).1; omega
        have hA16 := HA16.out.lt
        have hup : ∀ k, X ≤ k → (Value.slice xa i xc).ownBlock ≠ some k := fun k hk e => by have := (HXVB.out k e).2; omega
        have hg18 : Bx w18 G 30 #[.int .i64 xs, .int .i64 xe, .bool xb, .slice ga i gc] := (hun G (by omega) (hoff G (by omega)) (.inl (by omega))).trans HG16.out
        have ha18 : Bx w18 A 30 #[.int .i64 xs, .int .i64 xe, .bool xb, .slice aa i ac] := (hun A (by omega) (hup A (by omega)) (.inr (by omega))).trans HA16.out
        have hgv18 : Reads w18 (.slice ga i gc) (ints xt) := HGV16.out.same fun k hk hl => by
          have := HGVB.out k hk
          exact hun k hl (hoff k (by omega)) (.inl (by omega))
        have hav18 : Reads w18 (.slice aa i ac) (ints xt) := (OwnS.reads HAV16.out).same fun k hk hl => by
          have := (HAV16.out.blk k hk).1
          exact hun k hl (hup k (by omega)) (.inr (by omega))
        have hrv18 : IGrid w18 (.slice ra rn rc) rows := ⟨us, by have := HRV.out.own.len; omega, (OwnS.reads HRV.out.own).same fun k hk hl => by
            have := (HRV.out.own.blk k hk).1
            exact hun k hl (hup k (by omega)) (.inr (by omega)), fun j u l hu hl => ((HRV.out.rows j u l hu hl).1.reads).same fun k hk hl' => by
            have := ((HRV.out.rows j u l hu hl).1.blk k hk).1
            exact hun k hl' (hup k (by omega)) (.inr (by omega))⟩
        have hlv18 : IGrid w18 (.slice la rn lc) rows := HLV11.out.kept fun k hk hne => by
          have hs := HBK.out.size
          rw [hun k (by omega) (fun e => hne (by rw [HZ.out, e]; rfl)) (.inl hk)]
          exact HBK.out.block k hk
        have hq : ∀ w', Below w18.heap.size w18 w' → w'.cell? ⟨A, 0, none⟩ = some (.int .i64 xs) ∧ w'.cell? ⟨A, 1, none⟩ = some (.int .i64 xe) ∧ w'.cell? ⟨A, 2, none⟩ = some (.bool xb) ∧ w'.cell? ⟨A, 3, none⟩ = some (.slice aa i ac) ∧ w'.cell? ⟨G, 0, none⟩ = some (.int .i64 xs) ∧ w'.cell? ⟨G, 1, none⟩ = some (.int .i64 xe) ∧ w'.cell? ⟨G, 2, none⟩ = some (.bool xb) ∧ w'.cell? ⟨G, 3, none⟩ = some (.slice ga i gc) := fun w' hb =>
          ⟨(ha18.more hb).cell (i := 0) rfl, (ha18.more hb).cell (i := 1) rfl, (ha18.more hb).cell (i := 2) rfl, (ha18.more hb).cell (i := 3) rfl, (hg18.more hb).cell (i := 0) rfl, (hg18.more hb).cell (i := 1) rfl, (hg18.more hb).cell (i := 2) rfl, (hg18.more hb).cell (i := 3) rfl⟩
        have hsf : ∀ w', Below w18.heap.size w18 w' → Calls Try.prog 12 #[.agg #[.int .i64 xs, .int .i64 xe, .bool xb, .slice aa i ac], .agg #[.int .i64 xs, .int .i64 xe, .bool xb, .slice ga i gc]] w' fun e w'' => e = .returned (.bool true) ∧ Below w'.heap.size w' w'' := fun w' hb => by
          have := sameFound_walk xs xe xs xe xb xb (.slice aa i ac) (.slice ga i gc) xt xt w' (reads_below hav18 hb) (reads_below hgv18 hb) (by rw [HM.out]; exact hlen)
          rw [decide_eq_true rfl] at this
          simpa using this
        have hrw : ∀ w', Below w18.heap.size w18 w' → Calls Try.prog 17 #[.slice ra rn rc, .slice la rn lc] w' fun e w'' => e = .returned (.bool true) ∧ Below w'.heap.size w' w'' := fun w' hb => by
          have := rows_walk (.slice ra rn rc) (.slice la rn lc) rows rows w' (hrv18.below hb) (hlv18.below hb) (by have := HRN.out; omega) hrl
          rwa [decide_eq_true rfl] at this
        have HQ := Lib.hid hq
        have HSF := Lib.hid hsf
        have HRW := Lib.hid hrw
        have HBEL := Lib.hid hbel
        clear hq hsf hrw hbel hg18 ha18 hgv18 hav18 hrv18 hlv18 hun hoff hup hsp x3
        obtain ⟨a0, a1, a2, a3, g0, g1, g2, g3⟩ := HQ.out w18 (Below.refl _ _)
        go_wp2_with fail
        refine (HSF.out _ (Below.refl _ _)).mono ?_
        rintro e wa ⟨rfl, hbwa⟩
        clear a0 a1 a2 a3 g0 g1 g2 g3
        go_wp2_with fail
        refine (HRW.out wa hbwa).mono ?_
        rintro e wb ⟨rfl, hbwb⟩
        have hHeld := hbwa.trans (hbwb.mono hbwa.size)
        go_wp2
        go_ret
        exact ⟨rfl, (HBEL.out).trans (hHeld.mono (by have := HBEL.out.size; omega))⟩
end Go.Proofs.Ytmpgjnindbklaaa
