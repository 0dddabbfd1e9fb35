import Derived.Test.YtmpgjnindbklaaaERX
import Derived.Test.YtmpgjnindbklaaaERRow
import Derived.Test.YtmpgjnindbklaaaESorted
namespace Go.Proofs.Ytmpgjnindbklaaa
open Go.RowKit BA Ex

set_option maxRecDepth 100000 in
set_option maxHeartbeats 4000000 in
theorem refEnds_walk (X : Nat) (sw st : Value) (p : Lt) (w : World) (hX : X < w.heap.size) (h : PHas w sw st p) :
    Calls Try.prog 15 #[.agg #[sw, st]] w fun e w' => ∃ v, Below w.heap.size w w' ∧
      e = .returned (.tuple #[v, .int .i64 (endsF p).2]) ∧ IGx X w' v (endsF p).1 := by
  obtain ⟨aw, cw, hw⟩ := h.words_shape
  obtain ⟨at0, ct, hst⟩ := h.threads.shape
  subst hw hst
  have hR1 := (RChk.begin h)
  clear h
  have hi : Try.prog.info? 22 = some Try.t22 := by kernel_rfl
  have HJ := Lib.hid hi
  clear hi
  go_enter Try.func15, Try.ntmps15
  go_upto_region 1 with fail
  generalize hW : (w.alloc (.cells #[.slice aw p.words.length cw, .slice at0 p.threads.length ct] 25 (0, 0))) = w1 at hR1 ⊢
  clear hW
  generalize hN : w.heap.size = N at hR1 ⊢
  have HN := Lib.hid hN
  clear hN
  have q0 := hR1.cell0
  have q1 := hR1.cell1
  go_wp2_with fail
  refine (refCheck_walk _ _ p w1 hR1.has).mono ?_
  rintro e w2 ⟨rfl, hb2⟩
  have hR2 := hR1.more hb2
  have q0 := hR2.cell0
  have q1 := hR2.cell1
  clear hR1 hb2
  by_cases hp : check p = true
  · obtain ⟨⟨hn0, h8, _, h4⟩, _⟩ := check_facts hp
    go_wp2_with fail
    refine (refAll_walk _ _ p w2 hR2.has hp).mono ?_
    rintro e w3 (⟨l, B, lv, bv, fv, yv, vs, us, bs, hg, rfl, hA⟩ | ⟨hg, rfl, hb3⟩)
    · obtain ⟨gl, cl, hK⟩ := hA.rbk
      have hb3 := hA.chk.below
      have hR3 := hR2.more hb3
      have hN2 : N < w3.heap.size := by have := hR3.box; rw [Array.getElem?_eq_some_iff] at this; exact this.1
      have he : endsF p = (sortL (endRows p l l.length), 0) := by unfold endsF; rw [if_pos hp, hg]
      have HE := Lib.hid he
      have HCOME := Lib.hid hA.come
      have hsh : l.length ≤ 20000 := (goes_reach hg).short
      have hrsh := endRows_short (l := l) h8 h4
      have HRSH := Lib.hid hrsh
      have hBF : B < w3.heap.size := World.block_lt_of_cell? w3 _ hK.c0
      have hglF : gl < w3.heap.size := by obtain ⟨_, h1, _⟩ := hK.row 0 hA.pos; exact World.block_lt_of_cell? w3 _ h1
      have HK := Lib.hid hK
      have HR3 := Lib.hid hR3
      have c0 := hK.c0
      clear he hg hA hK hb3 hR2 hR3 hrsh q0 q1
      have hXF : X < w3.heap.size := by have := HN.out; omega
      generalize hF : w3.heap.size = F at hN2 hBF hglF hXF
      have HXF := Lib.hid hXF
      clear hXF
      have HF := Lib.hid hF
      clear hF
      have hG0 : OwnG w3 F (.slice none 0 0) [] (endRows p l 0) := OwnG.nil _ _
      go_wp2_with fail
      clear c0
      go_loopw [7, 8] (fun ov iv wr => ∃ (i : Nat) (vs : List Value), i ≤ l.length ∧ iv = .int .i64 i ∧ Below F w3 wr ∧ OwnG wr F ov vs (endRows p l i) ∧ F ≤ wr.heap.size) (fun _ iv _ => l.length - (intOf iv).toNat)
      case atStart => exact ⟨0, [], by omega, rfl, Below.refl _ _, hG0, by rw [HF.out]; exact Nat.le_refl _⟩
      case round =>
        clear hG0
        obtain ⟨i, vs, hil, rfl, hbF, hG, hBw⟩ := hrel
        have hbw : Below w3.heap.size w3 wr := by rw [HF.out]; exact hbF
        have x0 := (HK.out.more hbw).c0
        by_cases hlt : i < l.length
        · have hR := HR3.out.more hbw
          obtain ⟨sv, x1, x2⟩ := (HK.out.more hbw).row i hlt
          obtain ⟨n, hpath⟩ := come_at HCOME.out hlt
          obtain ⟨hwf, _⟩ := path_zero hp hpath
          have he1 := endRows_next (p := p) hlt
          have hel := endRows_len p l i
          have hend := fun w' (hb : Below wr.heap.size wr w') => refEnd_walk _ _ sv p (at' l i).s w' (hR.more hb).has (reads_below x2 hb) hwf.len h8 h4
          have hrow := fun w' (hb : Below wr.heap.size wr w') => refRow_walk _ _ sv p (at' l i).s w' (hR.more hb).has (reads_below x2 hb) hwf.len hn0 h8 h4
          have hoe := over_end hwf
          rw [hoe] at hend
          change endRows p l (i + 1) = endRows p l i ++ if over p (at' l i).s then [row p (at' l i).s] else [] at he1
          have q0 := hR.cell0
          have q1 := hR.cell1
          have hili : (i : Int) < (l.length : Int) := by omega
          generalize over p (at' l i).s = ov at he1 hend
          generalize row p (at' l i).s = rw at he1 hrow
          generalize hen : endRows p l i = en at he1 hG hel
          have HEN := Lib.hid hen
          have HE1 := Lib.hid he1
          have HEND := Lib.hid hend
          have HROW := Lib.hid hrow
          have HG := Lib.hid hG
          have hB0 : Below wr.heap.size wr wr.drew := (Below.refl _ _).drew
          have HB := Lib.hid hB0
          have HBF := Lib.hid hbF
          clear he1 hend hrow hB0 hoe hwf hpath hR hbw x2 hen hG hbF
          go_wp2_with fail
          go_region_held3 (fun w' => w'.cell? ⟨N, 0, none⟩ = some (.slice aw p.words.length cw) ∧ w'.cell? ⟨N, 1, none⟩ = some (.slice at0 p.threads.length ct) ∧ w'.cell? ⟨B, 0, none⟩ = some (.slice (some ⟨gl, 0, none⟩) l.length cl) ∧ w'.cell? ⟨gl, i, none⟩ = some sv) (go_keep)
            (first | (go_at_call 27; (refine (HEND.out _ HB.out).mono ?_; rintro e w5 ⟨rfl, hb5⟩; have y0 := cell_keep hb5 q0; have y1 := cell_keep hb5 q1; have y2 := cell_keep hb5 x0; have y3 := cell_keep hb5 x1)))
          have hb5' := HB.out.trans (hb5.mono HB.out.size)
          have HB5 := Lib.hid hb5'
          clear hb5 hb5' q0 q1 x0 x1
          cases ov with
          | false =>
            have hG5 := HG.out.below HB5.out
            have HG5 := Lib.hid hG5
            clear hG5
            go_wp2
            go_roundw
            case rel => exact ⟨i + 1, vs, by omega, by go_num, HBF.out.trans (HB5.out.mono hBw), by rw [HE1.out]; simpa using HG5.out, Nat.le_trans hBw HB5.out.size⟩
            case measure => simp [intOf]; omega
          | true =>
            have hG5 := HG.out.below HB5.out
            have hb5d := HB5.out.trans ((Below.refl w5.heap.size w5).drew.mono HB5.out.size)
            have HB6 := Lib.hid hb5d
            have hoN : some N ≠ u7.ownBlock := fun e => by have := (hG5.own.blk N e.symm).1; omega
            have hoB : some B ≠ u7.ownBlock := fun e => by have := (hG5.own.blk B e.symm).1; omega
            have hoG : some gl ≠ u7.ownBlock := fun e => by have := (hG5.own.blk gl e.symm).1; omega
            have HON := Lib.hid hoN
            have HOB := Lib.hid hoB
            have HOG := Lib.hid hoG
            have n1 : en.length + 1 ≤ maxLen := by unfold maxLen; omega
            have n2 : (en.length + 1) * 24 ≤ 140737488355328 := by omega
            have n5 : F ≤ w5.heap.size := Nat.le_trans hBw HB5.out.size
            have N1 := Lib.hid n1
            have N2 := Lib.hid n2
            have HG5 := Lib.hid hG5
            clear hG5 hb5d hoN hoB hoG n1 n2
            go_wp2_with fail
            go_region_held3 (fun w' => w'.cell? ⟨N, 0, none⟩ = some (.slice aw p.words.length cw) ∧ w'.cell? ⟨N, 1, none⟩ = some (.slice at0 p.threads.length ct) ∧ w'.cell? ⟨B, 0, none⟩ = some (.slice (some ⟨gl, 0, none⟩) l.length cl) ∧ w'.cell? ⟨gl, i, none⟩ = some sv) (go_keep)
              (first
                | (go_at_call 35; (refine (HROW.out _ HB6.out).mono ?_; rintro e w6 ⟨rv, rfl, hrv, hb6⟩; have z0 := cell_keep hb6 y0; have z1 := cell_keep hb6 y1; have z2 := cell_keep hb6 y2; have z3 := cell_keep hb6 y3; obtain ⟨ra, rc, hrs⟩ := ints_shape hrv.reads; generalize hml : rw.length = ml at hrv hrs; have HML := Lib.hid hml; clear hml; subst hrs; have hb56 : Below w5.heap.size w5 w6 := (Below.refl w5.heap.size w5).drew.trans hb6; have HB56 := Lib.hid hb56; have HRV := Lib.hid hrv; have hG7 := (HG5.out.below hb56).below ((Below.refl w6.heap.size w6).alloc (Nat.le_refl _) (.cells #[.slice ra ml rc] 22 (0, 0))); have HG7 := Lib.hid hG7; have HOW := Lib.hid hG7.own; have HRD := Lib.hid (reads_cell1' w6 (.slice ra ml rc) 22); have n6 : F ≤ (w6.alloc (.cells #[.slice ra ml rc] 22 (0, 0))).heap.size := (by have := hb56.size; simp; omega); have N6 := Lib.hid n6; clear hrv hb56 hG7 n6))
                | (refine step_append_reads rfl (.tmp 38) (.tmp 48) 38 rfl F 22 Try.t22 (.slice none 0 0) 24 Try.underlying38 HJ.out rfl rfl rfl rfl u7 en.length vs rfl HOW.out (.slice (some ⟨w6.heap.size, 0, none⟩) 1 1) [.slice ra ml rc] rfl HRD.out (slice_one' _ _ _) N1.out N2.out N6.out ?_; intro v8 w8 hv8 hg8 hob8; have r0 := hg8.cell (cell_keep ((Below.refl w6.heap.size w6).alloc (Nat.le_refl _) _) z0) HON.out; have r1 := hg8.cell (cell_keep ((Below.refl w6.heap.size w6).alloc (Nat.le_refl _) _) z1) HON.out; have r2 := hg8.cell (cell_keep ((Below.refl w6.heap.size w6).alloc (Nat.le_refl _) _) z2) HOB.out; have r3 := hg8.cell (cell_keep ((Below.refl w6.heap.size w6).alloc (Nat.le_refl _) _) z3) HOG.out; have HV8 := Lib.hid hv8; have HG8 := Lib.hid hg8; have HO8 := Lib.hid hob8; clear hv8 hg8 hob8))
            go_wp2
            go_roundw
            case rel =>
              have hal : Below w6.heap.size w6 (w6.alloc (.cells #[.slice ra ml rc] 22 (0, 0))) := (Below.refl _ _).alloc (Nat.le_refl _) _
              have h56 := HB56.out.size
              refine ⟨i + 1, vs ++ [.slice ra ml rc], by omega, by go_num, ?_, ?_, Nat.le_trans N6.out HG8.out.size⟩
              · exact ((((HBF.out.trans (HB5.out.mono hBw)).trans (HB56.out.mono n5)).trans (hal.mono (by omega))).grown HG8.out N6.out (fun k hk => (HG5.out.own.blk k hk).1))
              · rw [HE1.out, if_pos trivial]
                refine ((HG5.out.below HB56.out).below hal).push (u := .slice ra ml rc) (l := rw) (by rw [HML.out]; exact OwnS.alloc (ownS_base HRV.out n5) _) ?_ HV8.out HG8.out HO8.out
                cases hub : (Value.slice ra ml rc).ownBlock with
                | none => exact .inl rfl
                | some j =>
                  refine .inr fun e => ?_
                  have k1 := (HRV.out.blk j hub).1
                  have k2 := (HG5.out.own.blk j e.symm).2
                  have k3 : w5.drew.heap.size = w5.heap.size := rfl
                  omega
            case measure => simp [intOf]; omega
        · obtain rfl : i = l.length := by omega
          have HG := Lib.hid hG
          have HBF := Lib.hid hbF
          have hel := endRows_len p l l.length
          clear hG hbF hbw
          go_wp2_with fail
          refine (sorted_walk X _ u7 (endRows p l l.length) wr (Nat.lt_of_lt_of_le HXF.out hBw) (Nat.le_refl _) (by omega) (HG.out.igx HXF.out) HRSH.out).mono ?_
          rintro e w9 ⟨v', rfl, hG9, hb9⟩
          have HG9 := Lib.hid hG9
          have HB9 := Lib.hid hb9
          clear hG9 hb9
          go_wp2
          go_returns
          exact ⟨_, by rw [HN.out]; exact HR3.out.below.trans ((HBF.out.trans (HB9.out.mono hBw)).mono (by omega)), by rw [HE.out]; rfl, by rw [HE.out]; exact HG9.out⟩
    · have hR3 := hR2.more hb3
      have he : endsF p = ([], 271) := by unfold endsF; rw [if_pos hp, hg]
      have HE := Lib.hid he
      have HR3 := Lib.hid hR3
      clear he hg hR3 hR2 q0 q1
      go_wp2
      go_returns
      exact ⟨.slice none 0 0, by rw [HN.out]; exact HR3.out.below, by rw [HE.out]; rfl, by rw [HE.out]; exact (OwnG.nil _ (X + 1)).igx (Nat.lt_succ_self X)⟩
  · have he : endsF p = ([], 270) := by unfold endsF; rw [if_neg hp]
    have hp' : check p = false := by simpa using hp
    have HE := Lib.hid he
    clear he
    go_wp2
    go_returns
    exact ⟨.slice none 0 0, by rw [HN.out]; exact hR2.below, by rw [HE.out]; rfl, by rw [HE.out]; exact (OwnG.nil _ (X + 1)).igx (Nat.lt_succ_self X)⟩
end Go.Proofs.Ytmpgjnindbklaaa
