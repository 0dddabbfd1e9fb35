import Derived.Test.YtmpgjnindbklaaaEAll1
import Derived.Laws.OwnMore
namespace Go.Proofs.Ytmpgjnindbklaaa
open Go.RowKit BA Ex

set_option maxRecDepth 100000 in
set_option maxHeartbeats 4000000 in
theorem refAll_walk (sw st : Value) (p : Lt) (w : World) (h : PHas w sw st p) (hp : check p = true) :
    Calls Try.prog 26 #[.agg #[sw, st]] w fun e w' =>
      (∃ l B lv bv fv yv vs us bs, goes p = some l ∧ e = .returned (.tuple #[.pointer (some ⟨B, 0, none⟩), fv, yv]) ∧ RAll w w' w.heap.size B sw st lv bv fv yv vs us p l bs) ∨
      (goes p = none ∧ e = .returned (.tuple #[.pointer none, .slice none 0 0, .slice none 0 0]) ∧ Below w.heap.size w w') := by
  obtain ⟨⟨hn0, h8, _, h4⟩, _⟩ := check_facts hp
  obtain ⟨aw, cw, hw⟩ := h.words_shape
  obtain ⟨at0, ct, hst⟩ := h.threads.shape
  subst hw hst
  have hR := RChk.begin h
  have H0 := Lib.hid h
  clear h
  have hi : Try.prog.info? 3 = some Try.t3 := by kernel_rfl
  have HI := Lib.hid hi
  have hj : Try.prog.info? 22 = some Try.t22 := by kernel_rfl
  have HJ := Lib.hid hj
  clear hi hj
  go_enter Try.func26, Try.ntmps26
  go_upto_region 1 with fail
  generalize hW : w.alloc (.cells #[.slice aw p.words.length cw, .slice at0 p.threads.length ct] 25 (0, 0)) = w1 at hR ⊢
  clear hW
  generalize hN : w.heap.size = N at hR ⊢
  have HN := Lib.hid hN
  clear hN
  have hw1 : N + 1 ≤ w1.heap.size := by have := hR.box; rw [Array.getElem?_eq_some_iff] at this; exact this.1
  go_upto_region 2 with (first | (at_make; refine wpList_make_full _ rfl _ _ 38 rfl (N + 1) 22 Try.t22 (.slice none 0 0) 1 rfl HJ.out rfl rfl .i64 .i64 4096 4096 4096 rfl rfl rfl rfl (by decide) (by decide) hw1 ?_; intro w2 ho2 hg2) | fail)
  have hR2 := hR.grown H0.out HN.out hg2 (fun j hj => by cases hj)
  have hw2 : N + 1 ≤ w2.heap.size := Nat.le_trans hw1 hg2.size
  have hgB : w1.heap.size < w2.heap.size := (ho2.lt _ rfl).2
  have hal3 : Below w2.heap.size w2 (w2.alloc (.cells #[.slice none 0 0, .slice (some ⟨w1.heap.size, 0, none⟩) 4096 4096] 60 (0, 0))) := (Below.refl _ _).alloc (Nat.le_refl _) _
  have hBk := Bk.start (base := N + 1) (p.words.length + 5 * p.threads.length + 1) (heap_alloc_new w2 (.cells #[.slice none 0 0, .slice (some ⟨w1.heap.size, 0, none⟩) 4096 4096] 60 (0, 0))) hw2 _ _ rfl rfl (OwnS.below (⟨_, by rw [show List.replicate 4096 (Value.slice none 0 0) = (madeCells (Value.slice none 0 0).cells (4096 * 1)).toList from (toList_madeCells_one _ _).symm]; exact ho2⟩ : OwnS w2 (N + 1) 1 (.slice (some ⟨w1.heap.size, 0, none⟩) 4096 4096) 4096 (List.replicate 4096 (.slice none 0 0))) hal3) (by omega)
  have hR3 := hR2.more hal3
  have hw3 := Nat.le_trans hw2 hal3.size
  clear hR hR2 ho2 hg2 hal3 hgB
  generalize List.replicate 4096 (Value.slice none 0 0) = us3 at hBk
  generalize List.replicate 4096 ([] : List Int) = bs3 at hBk
  generalize hB : w2.heap.size = B at hBk hw2
  generalize Value.slice (some ⟨w1.heap.size, 0, none⟩) 4096 4096 = bv at hBk hR3 hw3 ⊢
  generalize w2.alloc (.cells #[.slice none 0 0, bv] 60 (0, 0)) = w3 at hBk hR3 hw3 ⊢
  have q0 := hR3.cell0
  have q1 := hR3.cell1
  have HBK := Lib.hid hBk
  have HR3 := Lib.hid hR3
  clear hBk hR3 hB hw1 hw2
  go_wp2_with fail
  refine (refFirst_walk _ _ p w3 HR3.out.has h8 h4).mono ?_
  rintro e w4 ⟨v4, rfl, hv4, hb4⟩
  have hfl : (flat p (first p)).length = p.words.length + 5 * p.threads.length + 1 := flat_len (first_len h8) h8 h4
  have hBk4 := HBK.out.of_below hb4
  have hR4 := HR3.out.more hb4
  have hv4b : ∀ k, v4.ownBlock = some k → w3.heap.size ≤ k := fun k hk => (hv4.blk k hk).1
  have hv4o : OwnS w4 (N + 1) 1 v4 (flat p (first p)).length (ints (flat p (first p))) := by
    have h1 := ownS_base hv4 hw3
    rw [← flat_first h8 h4] at h1
    rw [hfl]
    exact h1
  have hm := more_walk (x := flat p (first p)) w4 hBk4 hfl hv4o (fun e => by have := hv4b B e; have := HBK.out.own.lt; omega) (fun k hk e => by have := hv4b k hk; cases e) (fun k hk e => by have := hv4b k hk; have := HBK.out.own.bblk k e; omega) (fun u hu k hk e => by have := hv4b k hk; have := HBK.out.own.ublk u hu k e; omega) (by simp) (by omega) (Nat.le_trans hw3 hb4.size)
  have HM := Lib.hid hm
  have HR4 := Lib.hid hR4
  have HBK4 := Lib.hid hBk4
  have hw4 := Nat.le_trans hw3 hb4.size
  clear hm hR4 hBk4 hv4 hv4o hv4b hb4 q0 q1 HR3 HBK hw3
  go_wp2_with fail
  refine HM.out.mono ?_
  rintro e w5 (⟨hmem, _⟩ | ⟨_, rfl, lv5, us5, bs5, hb5, hf5⟩)
  · exact absurd hmem (by simp)
  have hR5 := HR4.out.fr H0.out HN.out hf5 HBK4.out.fp_base
  have hw5 : N + 1 ≤ w5.heap.size := Nat.le_trans hw4 hf5.size
  have hA := RAll.start hw5 hR5 hb5
  clear HM HR4 HBK4 hw4 hf5 hb5 hR5
  generalize hfv : Value.slice (some ⟨w5.heap.size, 0, none⟩) 1 1 = fv5 at hA
  generalize hyv : Value.slice (some ⟨(w5.alloc (.cells #[.int .i64 (-1)] 3 (0, 0))).heap.size, 0, none⟩) 1 1 = yv5 at hA
  have HA5 := Lib.hid hA
  have HFV := Lib.hid hfv
  have HYV := Lib.hid hyv
  clear hA hfv hyv hw5
  go_wp2_with fail
  go_loopw [6, 7, 8] (fun fv yv iv wr => ∃ (i : Nat) (l : List Ex.Met) (lv : Value) (vs us : List Value) (bs : List (List Int)), iv = .int .i64 i ∧ i ≤ l.length ∧ l.length ≤ 20000 ∧ goesR p (most + 1 - i) i l = goes p ∧ RAll w wr N B (.slice aw p.words.length cw) (.slice at0 p.threads.length ct) lv bv fv yv vs us p l bs) (fun _ _ iv _ => 20001 - (intOf iv).toNat)
  case atStart => exact ⟨0, _, lv5, _, us5, bs5, rfl, by simp, by simp, goesR_eq p _ _ _ (by simp [most]), by rw [HFV.out]; exact (by have h := HYV.out; simp at h; rw [h]; exact HA5.out)⟩
  case round =>
    clear HA5 HFV HYV
    obtain ⟨i, l, lv, vs, us, bs, rfl, hil, hl2, hgo, hA⟩ := hrel
    by_cases hlt : i < l.length
    · obtain ⟨n, hpath⟩ := come_at hA.come hlt
      obtain ⟨hwf, _⟩ := path_zero hp hpath
      have hfl := flat_len (p := p) hwf.len h8 h4
      have hfb := flat_bad (p := p) hwf.len h8 h4
      have hbd : (g (flat p (at' l i).s) ((flat p (at' l i).s).length - 1) == 1) = (at' l i).s.bad := by
        rw [hfl, Nat.add_sub_cancel, hfb]; cases (at' l i).s.bad <;> rfl
      obtain ⟨gl, cl, sv, rfl, x1, x2, x0⟩ := hA.row hlt
      have q0 := hA.chk.cell0
      have q1 := hA.chk.cell1
      have HGO := Lib.hid hgo
      have HA := Lib.hid hA
      have hili : (i : Int) < (l.length : Int) := by omega
      clear hgo hA hpath hwf hfb
      go_wp2_with fail
      refine (refBad_walk _ (flat p (at' l i).s) wr x2 (by omega) (by omega)).mono ?_
      rintro e wx ⟨rfl, rfl⟩
      rw [hbd]
      by_cases hsb : (at' l i).s.bad = true
      · have hfr : fromR p i l 0 p.threads.length = l := fromR_bad hsb _ _
        have hnx := goesR_next hlt hl2 (by rw [hfr]; exact hl2)
        rw [hfr] at hnx
        have HNX := Lib.hid hnx
        rw [hsb]
        clear hnx hfr hbd hfl x0 x1 x2 q0 q1
        go_wp2
        go_roundw
        case rel => exact ⟨i + 1, l, _, vs, us, bs, by go_num, by omega, hl2, by rw [← HNX.out]; exact HGO.out, HA.out⟩
        case measure => simp [intOf]; omega
      · have hsb' : (at' l i).s.bad = false := by simpa using hsb
        rw [hsb']
        clear hbd hfl x0 x1 x2 q0 q1 hsb
        have HSB := Lib.hid hsb'
        clear hsb'
        go_wp2_with fail
        go_loopw [6, 7, 9] (fun fv yv kv wr => ∃ (k : Nat) (l' : List Ex.Met) (lv : Value) (vs us : List Value) (bs : List (List Int)), kv = .int .i64 k ∧ k ≤ p.threads.length ∧ fromR p i l' k (p.threads.length - k) = fromR p i l 0 p.threads.length ∧ i < l'.length ∧ (at' l' i).s.bad = false ∧ l'.length ≤ 20000 + k ∧ RAll w wr N B (.slice aw p.words.length cw) (.slice at0 p.threads.length ct) lv bv fv yv vs us p l' bs) (fun _ _ kv _ => p.threads.length - (intOf kv).toNat)
        case atStart => exact ⟨0, l, _, vs, us, bs, rfl, by omega, rfl, hlt, HSB.out, by omega, HA.out⟩
        case round =>
          clear HA HSB
          obtain ⟨k, l', lv, vs', us', bs', rfl, hkT, hfr, hil', hbad', hl3, hA⟩ := hrel
          obtain ⟨gl', cl', sv', rfl, x1, x2, x0⟩ := hA.row hil'
          have q0 := hA.chk.cell0
          have q1 := hA.chk.cell1
          have HFR := Lib.hid hfr
          have HA := Lib.hid hA
          clear hA hfr
          by_cases hlk : k < p.threads.length
          · have HNX := Lib.hid (fromR_next (p := p) (i := i) (l := l') hlk)
            obtain ⟨n', hpath⟩ := come_at HA.out.come hil'
            obtain ⟨hwf, _⟩ := path_zero hp hpath
            have hfl := flat_len (p := p) hwf.len h8 h4
            have hB0 : Below wr.heap.size wr wr.drew := (Below.refl _ _).drew
            have HB := Lib.hid hB0
            have hov : ∀ w', Below wr.heap.size wr w' → _ := fun w' hb => refOver_walk _ _ sv' p (flat p (at' l' i).s) k w' (HA.out.chk.more hb).has (reads_below x2 hb) h8 hlk h4 (by omega) (by omega)
            have HOV := Lib.hid hov
            have hili' : (i : Int) < (l'.length : Int) := by omega
            rcases step_facts hp hwf hbad' hlk with ⟨hst, heq⟩ | ⟨s', j, x, hst, heq, hj, hgj, hxj, hok, hfs⟩
            · have HEQ := Lib.hid heq
              have HONE := Lib.hid (oneR_none (i := i) hst)
              clear hwf hfl hB0 hov x2 hst heq hpath
              go_wp2_with fail
              refine wp_region_noPanic ?_
              refine wp_region_held_drew (S := (fun w' => w'.cell? ⟨N, 0, none⟩ = some (.slice aw p.words.length cw) ∧ w'.cell? ⟨N, 1, none⟩ = some (.slice at0 p.threads.length ct))) (by kernel_rfl) ?_ (fun hHeld => ?_)
              · exact ⟨q0, q1⟩
              refine wpAnyH_take (i := 0) (oi := { dst := some 43, op := _, type := _, pos := _, after := _, guard := none }) (v := ?_) rfl (by kernel_rfl) (by kernel_rfl) (by kernel_rfl) (fun _ _ _ h => h) (Or.inl ⟨by rfl, ?_⟩) (by assumption) ?_
              rotate_left
              · (intro w hSw; obtain ⟨q0, q1⟩ : w.cell? ⟨N, 0, none⟩ = some (.slice aw p.words.length cw) ∧ w.cell? ⟨N, 1, none⟩ = some (.slice at0 p.threads.length ct) := id hSw; clear hSw; go_simp; try with_reducible rfl)
              simp only [Act.put, List.setIfInBounds_toArray, List.set_cons_zero, List.set_cons_succ]
              refine wpAnyH_take (i := 1) (oi := { dst := some 44, op := _, type := _, pos := _, after := _, guard := none }) (v := ?_) rfl (by kernel_rfl) (by kernel_rfl) (by kernel_rfl) (fun _ _ _ h => h) (Or.inl ⟨by rfl, ?_⟩) (by assumption) ?_
              rotate_left
              · (intro w hSw; (try dsimp only at hSw); go_simp; try with_reducible rfl)
              simp only [Act.put, List.setIfInBounds_toArray, List.set_cons_zero, List.set_cons_succ]
              refine wpAnyH_take (i := 2) (oi := { dst := some 45, op := _, type := _, pos := _, after := _, guard := none }) (v := ?_) rfl (by kernel_rfl) (by kernel_rfl) (by kernel_rfl) (fun _ _ _ h => h) (Or.inl ⟨by rfl, ?_⟩) (by assumption) ?_
              rotate_left
              · (intro w hSw; (try dsimp only at hSw); go_simp; try with_reducible rfl)
              simp only [Act.put, List.setIfInBounds_toArray, List.set_cons_zero, List.set_cons_succ]
              refine wpAnyH_take (i := 3) (oi := { dst := some 46, op := _, type := _, pos := _, after := _, guard := none }) (v := ?_) rfl (by kernel_rfl) (by kernel_rfl) (by kernel_rfl) (fun _ _ _ h => h) (Or.inl ⟨by rfl, ?_⟩) (by assumption) ?_
              rotate_left
              · (intro w hSw; (try dsimp only at hSw); go_simp; try with_reducible rfl)
              simp only [Act.put, List.setIfInBounds_toArray, List.set_cons_zero, List.set_cons_succ]
              refine wpAnyH_take (i := 5) (oi := { dst := some 48, op := _, type := _, pos := _, after := _, guard := none }) (v := ?_) rfl (by kernel_rfl) (by kernel_rfl) (by kernel_rfl) (fun _ _ _ h => h) (Or.inl ⟨by rfl, ?_⟩) (by assumption) ?_
              rotate_left
              · (intro w hSw; (try dsimp only at hSw); go_simp; try with_reducible rfl)
              simp only [Act.put, List.setIfInBounds_toArray, List.set_cons_zero, List.set_cons_succ]
              refine wpAnyH_take (i := 8) (oi := { dst := some 51, op := _, type := _, pos := _, after := _, guard := none }) (v := ?_) rfl (by kernel_rfl) (by kernel_rfl) (by kernel_rfl) (fun _ _ _ h => h) (Or.inl ⟨by rfl, ?_⟩) (by assumption) ?_
              rotate_left
              · (intro w hSw; (try dsimp only at hSw); go_simp; try with_reducible rfl)
              simp only [Act.put, List.setIfInBounds_toArray, List.set_cons_zero, List.set_cons_succ]
              refine wpAnyH_ready (rs := [4]) (by kernel_rfl) (by simp) ?_
              refine AllReadyH.cons (o := { dst := some 47, op := _, type := _, pos := _, after := _, guard := none }) rfl (fun K hK => ?_) ?_
              rotate_left
              · exact AllReadyH.nil
              go_simp
              refine hK.out _ _ ?_ (fun hHeld' => ?_)
              · exact ⟨q0, q1⟩
              clear hHeld hK K
              have hHeld := hHeld'
              clear hHeld'
              try simp only [Act.put, List.setIfInBounds_toArray, List.set_cons_zero, List.set_cons_succ]
              refine wpAnyH_take (i := 6) (oi := { dst := some 49, op := _, type := _, pos := _, after := _, guard := none }) (v := ?_) rfl (by kernel_rfl) (by kernel_rfl) (by kernel_rfl) (fun _ _ _ h => h) (Or.inl ⟨by rfl, ?_⟩) (by assumption) ?_
              rotate_left
              · (intro w hSw; (try dsimp only at hSw); go_simp; try with_reducible rfl)
              simp only [Act.put, List.setIfInBounds_toArray, List.set_cons_zero, List.set_cons_succ]
              refine wpAnyH_ready (rs := [7]) (by kernel_rfl) (by simp) ?_
              refine AllReadyH.cons (o := { dst := some 50, op := _, type := _, pos := _, after := _, guard := none }) rfl (fun K hK => ?_) ?_
              rotate_left
              · exact AllReadyH.nil
              go_simp
              refine hK.out _ _ ?_ (fun hHeld' => ?_)
              · exact ⟨q0, q1⟩
              clear hHeld hK K
              have hHeld := hHeld'
              clear hHeld'
              try simp only [Act.put, List.setIfInBounds_toArray, List.set_cons_zero, List.set_cons_succ]
              refine wpAnyH_ready (rs := [9]) (by kernel_rfl) (by simp) ?_
              refine AllReadyH.cons (o := { dst := some 52, op := _, type := _, pos := _, after := _, guard := none }) rfl (fun K hK => ?_) ?_
              rotate_left
              · exact AllReadyH.nil
              go_simp
              refine (HOV.out _ HB.out).mono ?_
              rintro e w5 ⟨rfl, hb5⟩
              rw [HEQ.out]
              go_wp2_with fail
              refine hK.out _ _ ?_ (fun hHeld' => ?_)
              · exact ⟨cell_keep hb5 q0, cell_keep hb5 q1⟩
              clear hHeld hK K
              have hHeld := hHeld'
              clear hHeld'
              try simp only [Act.put, List.setIfInBounds_toArray, List.set_cons_zero, List.set_cons_succ]
              refine wpAnyH_take (i := 10) (oi := { dst := some 53, op := _, type := _, pos := _, after := _, guard := none }) (v := ?_) rfl (by kernel_rfl) (by kernel_rfl) (by kernel_rfl) (fun _ _ _ h => h) (Or.inl ⟨by rfl, ?_⟩) (by assumption) ?_
              rotate_left
              · (intro w hSw; (try dsimp only at hSw); go_simp; try with_reducible rfl)
              simp only [Act.put, List.setIfInBounds_toArray, List.set_cons_zero, List.set_cons_succ]
              refine wpAnyH_take (i := 11) (oi := { dst := some 54, op := _, type := _, pos := _, after := _, guard := none }) (v := ?_) rfl (by kernel_rfl) (by kernel_rfl) (by kernel_rfl) (fun _ _ _ h => h) (Or.inl ⟨by rfl, ?_⟩) (by assumption) ?_
              rotate_left
              · (intro w hSw; (try dsimp only at hSw); go_simp; try with_reducible rfl)
              simp only [Act.put, List.setIfInBounds_toArray, List.set_cons_zero, List.set_cons_succ]
              refine wpAnyH_take (i := 12) (oi := { dst := some 55, op := _, type := _, pos := _, after := _, guard := some (11, true) }) (v := undef) rfl (by kernel_rfl) (by kernel_rfl) (by kernel_rfl) (fun _ _ _ h => h) (Or.inr ⟨by rfl, rfl⟩) (by assumption) ?_
              simp only [Act.put, List.setIfInBounds_toArray, List.set_cons_zero, List.set_cons_succ]
              refine wpAnyH_take (i := 13) (oi := { dst := some 56, op := _, type := _, pos := _, after := _, guard := some (11, true) }) (v := undef) rfl (by kernel_rfl) (by kernel_rfl) (by kernel_rfl) (fun _ _ _ h => h) (Or.inr ⟨by rfl, rfl⟩) (by assumption) ?_
              simp only [Act.put, List.setIfInBounds_toArray, List.set_cons_zero, List.set_cons_succ]
              refine wpAnyH_take (i := 14) (oi := { dst := some 57, op := _, type := _, pos := _, after := _, guard := some (11, true) }) (v := undef) rfl (by kernel_rfl) (by kernel_rfl) (by kernel_rfl) (fun _ _ _ h => h) (Or.inr ⟨by rfl, rfl⟩) (by assumption) ?_
              simp only [Act.put, List.setIfInBounds_toArray, List.set_cons_zero, List.set_cons_succ]
              refine wpAnyH_take (i := 15) (oi := { dst := some 58, op := _, type := _, pos := _, after := _, guard := some (11, true) }) (v := undef) rfl (by kernel_rfl) (by kernel_rfl) (by kernel_rfl) (fun _ _ _ h => h) (Or.inr ⟨by rfl, rfl⟩) (by assumption) ?_
              simp only [Act.put, List.setIfInBounds_toArray, List.set_cons_zero, List.set_cons_succ]
              refine wpAnyH_take (i := 16) (oi := { dst := some 59, op := _, type := _, pos := _, after := _, guard := some (11, true) }) (v := undef) rfl (by kernel_rfl) (by kernel_rfl) (by kernel_rfl) (fun _ _ _ h => h) (Or.inr ⟨by rfl, rfl⟩) (by assumption) ?_
              simp only [Act.put, List.setIfInBounds_toArray, List.set_cons_zero, List.set_cons_succ]
              refine wpAnyH_take (i := 17) (oi := { dst := some 60, op := _, type := _, pos := _, after := _, guard := some (11, true) }) (v := undef) rfl (by kernel_rfl) (by kernel_rfl) (by kernel_rfl) (fun _ _ _ h => h) (Or.inr ⟨by rfl, rfl⟩) (by assumption) ?_
              simp only [Act.put, List.setIfInBounds_toArray, List.set_cons_zero, List.set_cons_succ]
              refine wpAnyH_take (i := 18) (oi := { dst := some 61, op := _, type := _, pos := _, after := _, guard := some (11, true) }) (v := undef) rfl (by kernel_rfl) (by kernel_rfl) (by kernel_rfl) (fun _ _ _ h => h) (Or.inr ⟨by rfl, rfl⟩) (by assumption) ?_
              simp only [Act.put, List.setIfInBounds_toArray, List.set_cons_zero, List.set_cons_succ]
              refine wpAnyH_take (i := 19) (oi := { dst := some 62, op := _, type := _, pos := _, after := _, guard := some (11, true) }) (v := undef) rfl (by kernel_rfl) (by kernel_rfl) (by kernel_rfl) (fun _ _ _ h => h) (Or.inr ⟨by rfl, rfl⟩) (by assumption) ?_
              simp only [Act.put, List.setIfInBounds_toArray, List.set_cons_zero, List.set_cons_succ]
              refine wpAnyH_take (i := 20) (oi := { dst := some 63, op := _, type := _, pos := _, after := _, guard := some (11, true) }) (v := undef) rfl (by kernel_rfl) (by kernel_rfl) (by kernel_rfl) (fun _ _ _ h => h) (Or.inr ⟨by rfl, rfl⟩) (by assumption) ?_
              simp only [Act.put, List.setIfInBounds_toArray, List.set_cons_zero, List.set_cons_succ]
              refine wpAnyH_take (i := 21) (oi := { dst := some 64, op := _, type := _, pos := _, after := _, guard := some (11, true) }) (v := undef) rfl (by kernel_rfl) (by kernel_rfl) (by kernel_rfl) (fun _ _ _ h => h) (Or.inr ⟨by rfl, rfl⟩) (by assumption) ?_
              simp only [Act.put, List.setIfInBounds_toArray, List.set_cons_zero, List.set_cons_succ]
              refine wpAnyH_take (i := 22) (oi := { dst := some 65, op := _, type := _, pos := _, after := _, guard := some (11, true) }) (v := undef) rfl (by kernel_rfl) (by kernel_rfl) (by kernel_rfl) (fun _ _ _ h => h) (Or.inr ⟨by rfl, rfl⟩) (by assumption) ?_
              simp only [Act.put, List.setIfInBounds_toArray, List.set_cons_zero, List.set_cons_succ]
              refine wpAnyH_take (i := 23) (oi := { dst := some 66, op := _, type := _, pos := _, after := _, guard := some (11, true) }) (v := undef) rfl (by kernel_rfl) (by kernel_rfl) (by kernel_rfl) (fun _ _ _ h => h) (Or.inr ⟨by rfl, rfl⟩) (by assumption) ?_
              simp only [Act.put, List.setIfInBounds_toArray, List.set_cons_zero, List.set_cons_succ]
              refine wpAnyH_take (i := 24) (oi := { dst := some 67, op := _, type := _, pos := _, after := _, guard := none }) (v := ?_) rfl (by kernel_rfl) (by kernel_rfl) (by kernel_rfl) (fun _ _ _ h => h) (Or.inl ⟨by rfl, ?_⟩) (by assumption) ?_
              rotate_left
              · (intro w hSw; (try dsimp only at hSw); go_simp; try with_reducible rfl)
              simp only [Act.put, List.setIfInBounds_toArray, List.set_cons_zero, List.set_cons_succ]
              refine wpAnyH_done (by kernel_rfl) ?_ _
              refine NoPanic.normal ?_
              go_wp2
              go_roundw
              case rel => exact ⟨k + 1, l', _, vs', us', bs', by go_num, by omega, by have h := HFR.out; rw [HNX.out, HONE.out] at h; exact h, hil', hbad', by omega, HA.out.more (HB.out.trans (hb5.mono HB.out.size))⟩
              case measure => simp [intOf]; omega
            · have HEQ := Lib.hid heq
              have hpath' : Path p (n' + 1) s' := .step hpath hst
              have hstp : ∀ w', Below wr.heap.size wr w' → Calls Try.prog 42 #[.agg #[.slice aw p.words.length cw, .slice at0 p.threads.length ct], sv', .int .i64 k] w' fun e w'' => ∃ v, e = .returned v ∧ OwnS w'' w'.heap.size 1 v (flat p s').length (ints (flat p s')) ∧ Below w'.heap.size w' w'' := fun w' hb => by
                have h1 := refStep_walk _ _ sv' p (flat p (at' l' i).s) k j x w' (HA.out.chk.more hb).has (reads_below x2 hb) h8 hlk h4 hfl hj hgj hxj hok
                rw [hfs, hfl, ← flat_len (p := p) (path_zero hp hpath').1.len h8 h4] at h1
                exact h1
              have hmo : ∀ w5 w6 v6, Below wr.heap.size wr w5 → OwnS w6 w5.heap.size 1 v6 (flat p s').length (ints (flat p s')) → Below w5.heap.size w5 w6 → _ := fun w5 w6 v6 h1 h2 h3 => HA.out.call_more hp H0.out HN.out h1 h3 h2 hpath' (by omega)
              have HST := Lib.hid hstp
              have HMO := Lib.hid hmo
              clear hwf hfl hB0 hov x2 heq hpath hj hgj hxj hok hfs hstp hmo
              go_wp2_with fail
              refine wp_region_noPanic ?_
              refine wp_region_held_drew (S := (fun w' => w'.cell? ⟨N, 0, none⟩ = some (.slice aw p.words.length cw) ∧ w'.cell? ⟨N, 1, none⟩ = some (.slice at0 p.threads.length ct))) (by kernel_rfl) ?_ (fun hHeld => ?_)
              · exact ⟨q0, q1⟩
              refine wpAnyH_take (i := 0) (oi := { dst := some 43, op := _, type := _, pos := _, after := _, guard := none }) (v := ?_) rfl (by kernel_rfl) (by kernel_rfl) (by kernel_rfl) (fun _ _ _ h => h) (Or.inl ⟨by rfl, ?_⟩) (by assumption) ?_
              rotate_left
              · (intro w hSw; obtain ⟨q0, q1⟩ : w.cell? ⟨N, 0, none⟩ = some (.slice aw p.words.length cw) ∧ w.cell? ⟨N, 1, none⟩ = some (.slice at0 p.threads.length ct) := id hSw; clear hSw; go_simp; try with_reducible rfl)
              simp only [Act.put, List.setIfInBounds_toArray, List.set_cons_zero, List.set_cons_succ]
              refine wpAnyH_take (i := 1) (oi := { dst := some 44, op := _, type := _, pos := _, after := _, guard := none }) (v := ?_) rfl (by kernel_rfl) (by kernel_rfl) (by kernel_rfl) (fun _ _ _ h => h) (Or.inl ⟨by rfl, ?_⟩) (by assumption) ?_
              rotate_left
              · (intro w hSw; (try dsimp only at hSw); go_simp; try with_reducible rfl)
              simp only [Act.put, List.setIfInBounds_toArray, List.set_cons_zero, List.set_cons_succ]
              refine wpAnyH_take (i := 2) (oi := { dst := some 45, op := _, type := _, pos := _, after := _, guard := none }) (v := ?_) rfl (by kernel_rfl) (by kernel_rfl) (by kernel_rfl) (fun _ _ _ h => h) (Or.inl ⟨by rfl, ?_⟩) (by assumption) ?_
              rotate_left
              · (intro w hSw; (try dsimp only at hSw); go_simp; try with_reducible rfl)
              simp only [Act.put, List.setIfInBounds_toArray, List.set_cons_zero, List.set_cons_succ]
              refine wpAnyH_take (i := 3) (oi := { dst := some 46, op := _, type := _, pos := _, after := _, guard := none }) (v := ?_) rfl (by kernel_rfl) (by kernel_rfl) (by kernel_rfl) (fun _ _ _ h => h) (Or.inl ⟨by rfl, ?_⟩) (by assumption) ?_
              rotate_left
              · (intro w hSw; (try dsimp only at hSw); go_simp; try with_reducible rfl)
              simp only [Act.put, List.setIfInBounds_toArray, List.set_cons_zero, List.set_cons_succ]
              refine wpAnyH_take (i := 5) (oi := { dst := some 48, op := _, type := _, pos := _, after := _, guard := none }) (v := ?_) rfl (by kernel_rfl) (by kernel_rfl) (by kernel_rfl) (fun _ _ _ h => h) (Or.inl ⟨by rfl, ?_⟩) (by assumption) ?_
              rotate_left
              · (intro w hSw; (try dsimp only at hSw); go_simp; try with_reducible rfl)
              simp only [Act.put, List.setIfInBounds_toArray, List.set_cons_zero, List.set_cons_succ]
              refine wpAnyH_take (i := 8) (oi := { dst := some 51, op := _, type := _, pos := _, after := _, guard := none }) (v := ?_) rfl (by kernel_rfl) (by kernel_rfl) (by kernel_rfl) (fun _ _ _ h => h) (Or.inl ⟨by rfl, ?_⟩) (by assumption) ?_
              rotate_left
              · (intro w hSw; (try dsimp only at hSw); go_simp; try with_reducible rfl)
              simp only [Act.put, List.setIfInBounds_toArray, List.set_cons_zero, List.set_cons_succ]
              refine wpAnyH_ready (rs := [4]) (by kernel_rfl) (by simp) ?_
              refine AllReadyH.cons (o := { dst := some 47, op := _, type := _, pos := _, after := _, guard := none }) rfl (fun K hK => ?_) ?_
              rotate_left
              · exact AllReadyH.nil
              go_simp
              refine hK.out _ _ ?_ (fun hHeld' => ?_)
              · exact ⟨q0, q1⟩
              clear hHeld hK K
              have hHeld := hHeld'
              clear hHeld'
              try simp only [Act.put, List.setIfInBounds_toArray, List.set_cons_zero, List.set_cons_succ]
              refine wpAnyH_take (i := 6) (oi := { dst := some 49, op := _, type := _, pos := _, after := _, guard := none }) (v := ?_) rfl (by kernel_rfl) (by kernel_rfl) (by kernel_rfl) (fun _ _ _ h => h) (Or.inl ⟨by rfl, ?_⟩) (by assumption) ?_
              rotate_left
              · (intro w hSw; (try dsimp only at hSw); go_simp; try with_reducible rfl)
              simp only [Act.put, List.setIfInBounds_toArray, List.set_cons_zero, List.set_cons_succ]
              refine wpAnyH_ready (rs := [7]) (by kernel_rfl) (by simp) ?_
              refine AllReadyH.cons (o := { dst := some 50, op := _, type := _, pos := _, after := _, guard := none }) rfl (fun K hK => ?_) ?_
              rotate_left
              · exact AllReadyH.nil
              go_simp
              refine hK.out _ _ ?_ (fun hHeld' => ?_)
              · exact ⟨q0, q1⟩
              clear hHeld hK K
              have hHeld := hHeld'
              clear hHeld'
              try simp only [Act.put, List.setIfInBounds_toArray, List.set_cons_zero, List.set_cons_succ]
              refine wpAnyH_ready (rs := [9]) (by kernel_rfl) (by simp) ?_
              refine AllReadyH.cons (o := { dst := some 52, op := _, type := _, pos := _, after := _, guard := none }) rfl (fun K hK => ?_) ?_
              rotate_left
              · exact AllReadyH.nil
              go_simp
              refine (HOV.out _ HB.out).mono ?_
              rintro e w5 ⟨rfl, hb5⟩
              rw [HEQ.out]
              go_wp2_with fail
              refine hK.out _ _ ?_ (fun hHeld' => ?_)
              · exact ⟨cell_keep hb5 q0, cell_keep hb5 q1⟩
              clear hHeld hK K
              have hHeld := hHeld'
              clear hHeld'
              try simp only [Act.put, List.setIfInBounds_toArray, List.set_cons_zero, List.set_cons_succ]
              refine wpAnyH_take (i := 10) (oi := { dst := some 53, op := _, type := _, pos := _, after := _, guard := none }) (v := ?_) rfl (by kernel_rfl) (by kernel_rfl) (by kernel_rfl) (fun _ _ _ h => h) (Or.inl ⟨by rfl, ?_⟩) (by assumption) ?_
              rotate_left
              · (intro w hSw; (try dsimp only at hSw); go_simp; try with_reducible rfl)
              simp only [Act.put, List.setIfInBounds_toArray, List.set_cons_zero, List.set_cons_succ]
              refine wpAnyH_take (i := 11) (oi := { dst := some 54, op := _, type := _, pos := _, after := _, guard := none }) (v := ?_) rfl (by kernel_rfl) (by kernel_rfl) (by kernel_rfl) (fun _ _ _ h => h) (Or.inl ⟨by rfl, ?_⟩) (by assumption) ?_
              rotate_left
              · (intro w hSw; (try dsimp only at hSw); go_simp; try with_reducible rfl)
              simp only [Act.put, List.setIfInBounds_toArray, List.set_cons_zero, List.set_cons_succ]
              have y0 := cell_keep (HB.out.trans hb5) x0
              have y1 := cell_keep (HB.out.trans hb5) x1
              refine wpAnyH_take (i := 12) (oi := { dst := some 55, op := _, type := _, pos := _, after := _, guard := some (11, true) }) (v := ?_) rfl (by kernel_rfl) (by kernel_rfl) (by kernel_rfl) (fun _ _ _ h => h) (Or.inl ⟨by rfl, ?_⟩) (by assumption) ?_
              rotate_left
              · (intro w hSw; (try dsimp only at hSw); go_simp; try with_reducible rfl)
              simp only [Act.put, List.setIfInBounds_toArray, List.set_cons_zero, List.set_cons_succ]
              refine wpAnyH_take (i := 13) (oi := { dst := some 56, op := _, type := _, pos := _, after := _, guard := some (11, true) }) (v := ?_) rfl (by kernel_rfl) (by kernel_rfl) (by kernel_rfl) (fun _ _ _ h => h) (Or.inl ⟨by rfl, ?_⟩) (by assumption) ?_
              rotate_left
              · (intro w hSw; obtain ⟨q0, q1⟩ : w.cell? ⟨N, 0, none⟩ = some (.slice aw p.words.length cw) ∧ w.cell? ⟨N, 1, none⟩ = some (.slice at0 p.threads.length ct) := id hSw; clear hSw; go_simp; try with_reducible rfl)
              simp only [Act.put, List.setIfInBounds_toArray, List.set_cons_zero, List.set_cons_succ]
              refine wpAnyH_take (i := 14) (oi := { dst := some 57, op := _, type := _, pos := _, after := _, guard := some (11, true) }) (v := ?_) rfl (by kernel_rfl) (by kernel_rfl) (by kernel_rfl) (fun _ _ _ h => h) (Or.inl ⟨by rfl, ?_⟩) (by assumption) ?_
              rotate_left
              · (intro w hSw; (try dsimp only at hSw); go_simp; try with_reducible rfl)
              simp only [Act.put, List.setIfInBounds_toArray, List.set_cons_zero, List.set_cons_succ]
              refine wpAnyH_take (i := 15) (oi := { dst := some 58, op := _, type := _, pos := _, after := _, guard := some (11, true) }) (v := ?_) rfl (by kernel_rfl) (by kernel_rfl) (by kernel_rfl) (fun _ _ _ h => h) (Or.inl ⟨by rfl, ?_⟩) (by assumption) ?_
              rotate_left
              · (intro w hSw; (try dsimp only at hSw); go_simp; try with_reducible rfl)
              simp only [Act.put, List.setIfInBounds_toArray, List.set_cons_zero, List.set_cons_succ]
              refine wpAnyH_take (i := 16) (oi := { dst := some 59, op := _, type := _, pos := _, after := _, guard := some (11, true) }) (v := ?_) rfl (by kernel_rfl) (by kernel_rfl) (by kernel_rfl) (fun _ _ _ h => h) (Or.inl ⟨by rfl, ?_⟩) (by assumption) ?_
              rotate_left
              · (intro w hSw; (try dsimp only at hSw); go_simp; try with_reducible rfl)
              simp only [Act.put, List.setIfInBounds_toArray, List.set_cons_zero, List.set_cons_succ]
              refine wpAnyH_take (i := 18) (oi := { dst := some 61, op := _, type := _, pos := _, after := _, guard := some (11, true) }) (v := ?_) rfl (by kernel_rfl) (by kernel_rfl) (by kernel_rfl) (fun _ _ _ h => h) (Or.inl ⟨by rfl, ?_⟩) (by assumption) ?_
              rotate_left
              · (intro w hSw; (try dsimp only at hSw); go_simp; try with_reducible rfl)
              simp only [Act.put, List.setIfInBounds_toArray, List.set_cons_zero, List.set_cons_succ]
              refine wpAnyH_take (i := 21) (oi := { dst := some 64, op := _, type := _, pos := _, after := _, guard := some (11, true) }) (v := ?_) rfl (by kernel_rfl) (by kernel_rfl) (by kernel_rfl) (fun _ _ _ h => h) (Or.inl ⟨by rfl, ?_⟩) (by assumption) ?_
              rotate_left
              · (intro w hSw; (try dsimp only at hSw); go_simp; try with_reducible rfl)
              simp only [Act.put, List.setIfInBounds_toArray, List.set_cons_zero, List.set_cons_succ]
              refine wpAnyH_ready (rs := [17]) (by kernel_rfl) (by simp) ?_
              refine AllReadyH.cons (o := { dst := some 60, op := _, type := _, pos := _, after := _, guard := some (11, true) }) rfl (fun K hK => ?_) ?_
              rotate_left
              · exact AllReadyH.nil
              go_simp
              refine hK.out _ _ ?_ (fun hHeld' => ?_)
              · exact ⟨cell_keep hb5 q0, cell_keep hb5 q1⟩
              clear hHeld hK K
              have hHeld := hHeld'
              clear hHeld'
              try simp only [Act.put, List.setIfInBounds_toArray, List.set_cons_zero, List.set_cons_succ]
              refine wpAnyH_take (i := 19) (oi := { dst := some 62, op := _, type := _, pos := _, after := _, guard := some (11, true) }) (v := ?_) rfl (by kernel_rfl) (by kernel_rfl) (by kernel_rfl) (fun _ _ _ h => h) (Or.inl ⟨by rfl, ?_⟩) (by assumption) ?_
              rotate_left
              · (intro w hSw; (try dsimp only at hSw); go_simp; try with_reducible rfl)
              simp only [Act.put, List.setIfInBounds_toArray, List.set_cons_zero, List.set_cons_succ]
              refine wpAnyH_ready (rs := [20]) (by kernel_rfl) (by simp) ?_
              refine AllReadyH.cons (o := { dst := some 63, op := _, type := _, pos := _, after := _, guard := some (11, true) }) rfl (fun K hK => ?_) ?_
              rotate_left
              · exact AllReadyH.nil
              go_simp
              refine hK.out _ _ ?_ (fun hHeld' => ?_)
              · exact ⟨cell_keep hb5 q0, cell_keep hb5 q1⟩
              clear hHeld hK K
              have hHeld := hHeld'
              clear hHeld'
              try simp only [Act.put, List.setIfInBounds_toArray, List.set_cons_zero, List.set_cons_succ]
              refine wpAnyH_ready (rs := [22]) (by kernel_rfl) (by simp) ?_
              refine AllReadyH.cons (o := { dst := some 65, op := _, type := _, pos := _, after := _, guard := some (11, true) }) rfl (fun K hK => ?_) ?_
              rotate_left
              · exact AllReadyH.nil
              go_simp
              refine (HST.out _ (HB.out.trans hb5)).mono ?_
              rintro e w6 ⟨v6, rfl, hv6, hb6⟩
              go_wp2_with fail
              refine hK.out _ _ ?_ (fun hHeld' => ?_)
              · exact ⟨cell_keep (hb5.trans (hb6.mono hb5.size)) q0, cell_keep (hb5.trans (hb6.mono hb5.size)) q1⟩
              clear hHeld hK K
              have hHeld := hHeld'
              clear hHeld'
              try simp only [Act.put, List.setIfInBounds_toArray, List.set_cons_zero, List.set_cons_succ]
              refine wpAnyH_ready (rs := [23]) (by kernel_rfl) (by simp) ?_
              refine AllReadyH.cons (o := { dst := some 66, op := _, type := _, pos := _, after := _, guard := some (11, true) }) rfl (fun K hK => ?_) ?_
              rotate_left
              · exact AllReadyH.nil
              go_simp
              refine (HMO.out _ _ _ (HB.out.trans hb5) hv6 hb6).mono ?_
              rintro e w7 (⟨hm, rfl, hA7, hR7⟩ | ⟨hm, rfl, ⟨lv7, us7, bs7, hB7, hF7⟩, hR7⟩)
              · go_wp2_with fail
                refine hK.out _ _ ?_ (fun hHeld' => ?_)
                · exact ⟨hR7.cell0, hR7.cell1⟩
                clear hHeld hK K
                have hHeld := hHeld'
                clear hHeld'
                try simp only [Act.put, List.setIfInBounds_toArray, List.set_cons_zero, List.set_cons_succ]
                refine wpAnyH_take (i := 24) (oi := { dst := some 67, op := _, type := _, pos := _, after := _, guard := none }) (v := ?_) rfl (by kernel_rfl) (by kernel_rfl) (by kernel_rfl) (fun _ _ _ h => h) (Or.inl ⟨by rfl, ?_⟩) (by assumption) ?_
                rotate_left
                · (intro w hSw; (try dsimp only at hSw); go_simp; try with_reducible rfl)
                simp only [Act.put, List.setIfInBounds_toArray, List.set_cons_zero, List.set_cons_succ]
                refine wpAnyH_done (by kernel_rfl) ?_ _
                refine NoPanic.normal ?_
                have HONE := Lib.hid (oneR_old hst hm)
                have HA7 := Lib.hid hA7
                clear hA7 hR7 hm hb5 hb6 hv6 hHeld
                go_wp2
                go_roundw
                case rel => exact ⟨k + 1, l', _, vs', us', bs', by go_num, by omega, by have h := HFR.out; rw [HNX.out, HONE.out] at h; exact h, hil', hbad', by omega, HA7.out⟩
                case measure => simp [intOf]; omega
              · go_wp2_with fail
                refine hK.out _ _ ?_ (fun hHeld' => ?_)
                · exact ⟨hR7.cell0, hR7.cell1⟩
                clear hHeld hK K
                have hHeld := hHeld'
                clear hHeld'
                try simp only [Act.put, List.setIfInBounds_toArray, List.set_cons_zero, List.set_cons_succ]
                refine wpAnyH_take (i := 24) (oi := { dst := some 67, op := _, type := _, pos := _, after := _, guard := none }) (v := ?_) rfl (by kernel_rfl) (by kernel_rfl) (by kernel_rfl) (fun _ _ _ h => h) (Or.inl ⟨by rfl, ?_⟩) (by assumption) ?_
                rotate_left
                · (intro w hSw; (try dsimp only at hSw); go_simp; try with_reducible rfl)
                simp only [Act.put, List.setIfInBounds_toArray, List.set_cons_zero, List.set_cons_succ]
                refine wpAnyH_done (by kernel_rfl) ?_ _
                refine NoPanic.normal ?_
                have HONE := Lib.hid (oneR_new hst hm)
                have HB7 := Lib.hid hB7
                have HF7 := Lib.hid hF7
                have HB5 := Lib.hid (HB.out.trans hb5)
                have HV6 := Lib.hid (fun k hk => (hv6.blk k hk).1 : ∀ k, v6.ownBlock = some k → w5.heap.size ≤ k)
                have hsz7 : N + 1 ≤ w7.heap.size := by have := hR7.box; rw [Array.getElem?_eq_some_iff] at this; exact this.1
                have hA5 := HA.out.more (HB.out.trans hb5)
                have hof := hA5.fr7 hF7 (.cells #[.int .i64 (i : Int)] 3 (0, 0))
                have HOF := Lib.hid hof
                have HA5 := Lib.hid hA5
                have HRI := Lib.hid (reads_cell1' w7 (.int .i64 (i : Int)) 3)
                have n1 : l'.length + 1 ≤ maxLen := by unfold maxLen; omega
                have n2 : (l'.length + 1) * 8 ≤ 140737488355328 := by omega
                have n3 : N + 1 ≤ (w7.alloc (.cells #[.int .i64 (i : Int)] 3 (0, 0))).heap.size := by simp; omega
                have N1 := Lib.hid n1
                have N2 := Lib.hid n2
                clear hm hB7 hF7 hb5 hb6 hv6 hHeld hA5 hof hR7 n1 n2
                go_wp2_with (first
                  | (at_builtin; refine wpList_append_reads _ rfl (.tmp 68) (.tmp 70) 22 rfl (N + 1) 3 Try.t3 (.int .i64 0) 8 Try.underlying22 HI.out rfl rfl rfl rfl u6 l'.length (ints (l'.map (·.fr))) rfl HOF.out (.slice (some ⟨w7.heap.size, 0, none⟩) 1 1) [.int .i64 (i : Int)] rfl HRI.out (ints_one [(i : Int)]) N1.out N2.out n3 ?_; intro v8 w8 hv8 hg8 hob8; have hoy := HA5.out.by7 HF7.out _ (.cells #[.int .i64 (k : Int)] 3 (0, 0)) hg8; have HOY := Lib.hid hoy; have HRK := Lib.hid (reads_cell1' w8 (.int .i64 (k : Int)) 3); have HV8 := Lib.hid hv8; have HG8 := Lib.hid hg8; have HN8 := Lib.hid hob8; have n8 : N + 1 ≤ (w8.alloc (.cells #[.int .i64 (k : Int)] 3 (0, 0))).heap.size := (by have := hg8.size; simp; omega); clear hoy hv8 hg8 hob8)
                  | (at_builtin; refine wpList_append_reads _ rfl (.tmp 72) (.tmp 74) 22 rfl (N + 1) 3 Try.t3 (.int .i64 0) 8 Try.underlying22 HI.out rfl rfl rfl rfl u7 l'.length (ints (l'.map (·.by'))) rfl HOY.out (.slice (some ⟨w8.heap.size, 0, none⟩) 1 1) [.int .i64 (k : Int)] rfl HRK.out (ints_one [(k : Int)]) N1.out N2.out n8 ?_; intro v9 w9 hv9 hg9 hob9; have HV9 := Lib.hid hv9; have HG9 := Lib.hid hg9; have HN9 := Lib.hid hob9; clear hv9 hg9 hob9)
                  | fail)
                go_roundw
                case rel => exact ⟨k + 1, l' ++ [⟨s', i, k⟩], lv7, vs' ++ [v6], us7, bs7, by go_num, by omega, by have h := HFR.out; rw [HNX.out, HONE.out] at h; exact h, by simp; omega, by rw [at_left hil']; exact hbad', by simp; omega, HA5.out.add H0.out HN.out HB7.out HF7.out HV6.out hpath' HG8.out HV8.out HN8.out HG9.out HV9.out HN9.out⟩
                case measure => simp [intOf]; omega
          · obtain rfl : k = p.threads.length := by omega
            rw [Nat.sub_self] at HFR
            have hl' : l' = fromR p i l 0 p.threads.length := HFR.out
            clear x1 x2 q0
            by_cases hbig : 20000 < l'.length
            · have hst := goesR_stop hlt hl2 (by rw [← hl']; exact hbig)
              have HST := Lib.hid (hst.symm.trans HGO.out)
              have hb2 : (20000 : Int) < (l'.length : Int) := by omega
              clear hst hl' hl3 hbig
              go_wp2
              go_returns
              exact .inr ⟨HST.out.symm, rfl, by rw [HN.out]; exact HA.out.chk.below⟩
            · have hnx := goesR_next hlt hl2 (by rw [← hl']; omega)
              rw [← hl'] at hnx
              have HNX := Lib.hid hnx
              have hb2 : ¬ (20000 : Int) < (l'.length : Int) := by omega
              clear hl' hnx
              go_wp2
              go_roundw
              case rel => exact ⟨i + 1, l', _, vs', us', bs', by go_num, by omega, by omega, by rw [← HNX.out]; exact HGO.out, HA.out⟩
              case measure => simp [intOf]; omega
    · obtain rfl : i = l.length := by omega
      rw [goesR_end hl2] at hgo
      obtain ⟨gl, cl, sv, rfl, _, _, x0⟩ := hA.row hA.pos
      have HGO := Lib.hid hgo
      have HA := Lib.hid hA
      clear hgo hA
      go_wp2
      go_returns
      exact .inl ⟨l, B, _, bv, _, _, vs, us, bs, HGO.out.symm, rfl, by rw [HN.out]; exact HA.out⟩
end Go.Proofs.Ytmpgjnindbklaaa
