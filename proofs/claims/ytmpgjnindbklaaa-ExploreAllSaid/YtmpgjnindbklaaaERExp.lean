import Derived.Test.YtmpgjnindbklaaaERX
namespace Go.Proofs.Ytmpgjnindbklaaa
open Go.RowKit BA Ex

set_option maxRecDepth 100000 in
set_option maxHeartbeats 4000000 in
theorem refExplore_walk (sw st : Value) (p : Lt) (w : World) (h : PHas w sw st p) :
    Calls Try.prog 10 #[.agg #[sw, st]] w fun e w' => ∃ v, Below w.heap.size w w' ∧
      e = .returned (.tuple #[.agg #[.int .i64 (exploreF p).1.states, .int .i64 (exploreF p).1.ends, .bool (exploreF p).1.bad, v], .int .i64 (exploreF p).2]) ∧ OwnS w' w.heap.size 1 v (exploreF p).1.turns.length (ints (exploreF p).1.turns) := by
  obtain ⟨aw, cw, hw⟩ := h.words_shape
  obtain ⟨at0, ct, hst⟩ := h.threads.shape
  subst hw hst
  have hR := (RChk.begin h)
  have hB := (Below.refl (w.alloc (.cells #[.slice aw p.words.length cw, .slice at0 p.threads.length ct] 25 (0, 0))).heap.size (w.alloc (.cells #[.slice aw p.words.length cw, .slice at0 p.threads.length ct] 25 (0, 0)))).alloc (Nat.le_refl _) (.cells #[.int .i64 0, .int .i64 0, .bool false, .slice none 0 0] 30 (0, 0))
  have hR1 := hR.more hB
  have hres : ((w.alloc (.cells #[.slice aw p.words.length cw, .slice at0 p.threads.length ct] 25 (0, 0))).alloc (.cells #[.int .i64 0, .int .i64 0, .bool false, .slice none 0 0] 30 (0, 0))).heap[w.heap.size + 1]? = some (.cells #[.int .i64 0, .int .i64 0, .bool false, .slice none 0 0] 30 (0, 0)) := by
    simpa using heap_alloc_new (w.alloc (.cells #[.slice aw p.words.length cw, .slice at0 p.threads.length ct] 25 (0, 0))) (.cells #[.int .i64 0, .int .i64 0, .bool false, .slice none 0 0] 30 (0, 0))
  clear hR hB h
  have hi3 : Try.prog.info? 3 = some Try.t3 := by kernel_rfl
  have HI3 := Lib.hid hi3
  clear hi3
  go_enter Try.func10, Try.ntmps10
  go_upto_region 1 with fail
  generalize hW : (w.alloc (.cells #[.slice aw p.words.length cw, .slice at0 p.threads.length ct] 25 (0, 0))).alloc (.cells #[.int .i64 0, .int .i64 0, .bool false, .slice none 0 0] 30 (0, 0)) = w1 at hR1 hres ⊢
  clear hW
  generalize hN : w.heap.size = N at hR1 hres ⊢
  have HN := Lib.hid hN
  clear hN
  have q0 := hR1.cell0
  have q1 := hR1.cell1
  go_wp2_with fail
  refine (refCheck_walk _ _ p w1 hR1.has).mono ?_
  rintro e w2 ⟨rfl, hb2⟩
  have hR2 := hR1.more hb2
  have hN1 : N + 1 < w1.heap.size := by rw [Array.getElem?_eq_some_iff] at hres; exact hres.1
  have hres2 := (hb2.block _ hN1).trans hres
  have q0 := hR2.cell0
  have q1 := hR2.cell1
  clear hR1 hres hb2 hN1
  by_cases hp : check p = true
  · obtain ⟨⟨_, h8, _, h4⟩, _⟩ := check_facts hp
    go_wp2_with fail
    refine (refAll_walk _ _ p w2 hR2.has hp).mono ?_
    rintro e w3 (⟨l, B, lv, bv, fv, yv, vs, us, bs, hg, rfl, hA⟩ | ⟨hg, rfl, hb3⟩)
    · obtain ⟨gl, cl, hK⟩ := hA.rbk
      have hb3 := hA.chk.below
      have hR3 := hR2.more hb3
      have hN2 : N + 1 < w2.heap.size := by rw [Array.getElem?_eq_some_iff] at hres2; exact hres2.1
      have hres3 := (hb3.block _ hN2).trans hres2
      have hFw : N + 1 < w3.heap.size := Nat.lt_of_lt_of_le hN2 hb3.size
      have hlk := goes_lnk hg
      have he : exploreF p = (told p l, 0) := by unfold exploreF; rw [if_pos hp, hg]
      rw [told_is hlk] at he
      have HE := Lib.hid he
      have HLK := Lib.hid hlk
      have HCOME := Lib.hid hA.come
      have hsh : l.length ≤ 20000 := (goes_reach hg).short
      have hpos := hA.pos
      obtain ⟨bf, of, cf, hfv, _⟩ := ints_form hK.fr (by simpa using hpos)
      obtain ⟨by', oy, cy, hyv, _⟩ := ints_form hK.by' (by simpa using hpos)
      rw [List.length_map] at hfv hyv
      subst hfv hyv
      have HK := Lib.hid hK
      have HR3 := Lib.hid hR3
      have HRES := Lib.hid hres3
      have c0 := hK.c0
      clear he hg hlk hA hK hb3 hR2 hR3 hres2 hres3 hN2 q0 q1
      go_upto_region 7 with fail
      have hX := RX.start w3 l.length
      generalize hF : w3.heap.size = F at hX hFw ⊢
      have HF := Lib.hid hF
      have hX0 : RX w3 (w3.alloc (.cells #[.int .i64 l.length, .int .i64 0, .bool false, .slice none 0 0] 30 (0, 0))) F (.slice none 0 0) l.length (ends p l 0) (anyBad l 0) (trail l 0) := hX
      clear hF c0 hX
      generalize w3.alloc (.cells #[.int .i64 l.length, .int .i64 0, .bool false, .slice none 0 0] 30 (0, 0)) = w4 at hX0 ⊢
      go_wp2_with fail
      go_loopw [8] (fun iv wr => ∃ (i : Nat) (tv : Value), i ≤ l.length ∧ iv = .int .i64 i ∧ RX w3 wr F tv l.length (ends p l i) (anyBad l i) (trail l i)) (fun iv _ => l.length - (intOf iv).toNat)
      case atStart => exact ⟨0, _, by omega, rfl, hX0⟩
      case round =>
        clear hX0
        obtain ⟨i, tv, hil, rfl, hX⟩ := hrel
        have hbw : Below w3.heap.size w3 wr := by rw [HF.out]; exact hX.below
        have x0 := (HK.out.more hbw).c0
        by_cases hlt : i < l.length
        · have hR := HR3.out.more hbw
          obtain ⟨sv, x1, x2⟩ := (HK.out.more hbw).row i hlt
          obtain ⟨n, hpath⟩ := come_at HCOME.out hlt
          obtain ⟨hwf, _⟩ := path_zero hp hpath
          have he1 := ends_next (p := p) hlt
          have ha1 := anyBad_next hlt
          have ht1 := trail_stay hlt
          have ht2 := trail_new hlt
          have hend := fun w' (hb : Below wr.heap.size wr w') => refEnd_walk _ _ sv p (at' l i).s w' (hR.more hb).has (reads_below x2 hb) hwf.len h8 h4
          have hoe := over_end hwf
          have hbd := fun (sv' : Value) (w' : World) (hr : Reads w' sv' (ints (flat p (at' l i).s))) => refBad_walk sv' (flat p (at' l i).s) w' hr (by rw [flat_len hwf.len h8 h4]; omega) (by rw [flat_len hwf.len h8 h4]; omega)
          have hbe : (g (flat p (at' l i).s) ((flat p (at' l i).s).length - 1) == 1) = (at' l i).s.bad := by
            rw [flat_len hwf.len h8 h4, Nat.add_sub_cancel, flat_bad hwf.len h8 h4]; cases (at' l i).s.bad <;> rfl
          rw [hoe] at hend
          rw [hbe] at hbd
          change ends p l (i + 1) = ends p l i + if over p (at' l i).s then 1 else 0 at he1
          change anyBad l (i + 1) = (anyBad l i || (at' l i).s.bad) at ha1
          change ((at' l i).s.bad = false ∨ anyBad l i = true) → _ at ht1
          change (at' l i).s.bad = true → _ at ht2
          have q0 := hR.cell0
          have q1 := hR.cell1
          have hili : (i : Int) < (l.length : Int) := by omega
          generalize over p (at' l i).s = ov at he1 hend
          generalize (at' l i).s.bad = bd at ha1 ht1 ht2 hbd
          have HE1 := Lib.hid he1
          have HA1 := Lib.hid ha1
          have HT1 := Lib.hid ht1
          have HT2 := Lib.hid ht2
          have HEND := Lib.hid hend
          have HBD := Lib.hid hbd
          have HX := Lib.hid hX
          have hB0 : Below wr.heap.size wr wr.drew := (Below.refl _ _).drew
          have HB := Lib.hid hB0
          clear he1 ha1 ht1 ht2 hend hbd hX hB0 hbe hoe hwf hpath hR hbw x2
          go_wp2_with fail
          go_region_held3 (fun w' => w'.cell? ⟨N, 0, none⟩ = some (.slice aw p.words.length cw) ∧ w'.cell? ⟨N, 1, none⟩ = some (.slice at0 p.threads.length ct) ∧ w'.cell? ⟨B, 0, none⟩ = some (.slice (some ⟨gl, 0, none⟩) l.length cl) ∧ w'.cell? ⟨gl, i, none⟩ = some sv) (go_keep)
            (first | (go_at_call 27; (refine (HEND.out _ HB.out).mono ?_; rintro e w5 ⟨rfl, hb5⟩; have y0 := cell_keep hb5 q0; have y1 := cell_keep hb5 q1; have y2 := cell_keep hb5 x0; have y3 := cell_keep hb5 x1)))
          have hX5 := HX.out.more (HB.out.trans (hb5.mono HB.out.size))
          have HB5 := Lib.hid (HB.out.trans (hb5.mono HB.out.size))
          have hle := ends_le p l i
          have hc1 := hX5.c1
          have hf1 := hX5.free 1
          generalize hEE : ends p l i = en at hX5 hle hc1
          have HEN := Lib.hid hEE
          have HX5 := Lib.hid hX5
          have hwr : IntKind.i64.wrap ((en : Int) + 1) = (en : Int) + 1 := by rw [wrap_w64]; unfold w64 RowKit.wrap64; omega
          clear hEE hX5 hb5 HX q0 q1 x0 x1 y0 y1
          go_upto_if 46 with fail
          go_cut [8] from 29 to 83 (fun s8 wx => s8 = .int .i64 i ∧ RX w3 wx F tv l.length (ends p l (i + 1)) (anyBad l i) (trail l i))
          case first =>
            cases ov with
            | false =>
              go_wp2
              go_meet
              exact ⟨rfl, by rw [HE1.out, HEN.out]; exact HX5.out⟩
            | true =>
              go_wp2
              go_meet
              exact ⟨rfl, by rw [HE1.out, HEN.out]; exact HX5.out.put1 (en + 1)⟩
          case rest =>
            obtain ⟨rfl, hX7⟩ := hcut
            clear hc1 hf1 hwr hle HX5 HEN HE1 y2 y3
            have hbw : Below w3.heap.size w3 wc := by rw [HF.out]; exact hX7.below
            have x0 := (HK.out.more hbw).c0
            obtain ⟨sv7, x1, x2⟩ := (HK.out.more hbw).row i hlt
            have hbd7 := HBD.out sv7 wc x2
            have HBD7 := Lib.hid hbd7
            have hc2 := hX7.c2
            have HX7 := Lib.hid hX7
            clear hX7 hbd7 x2 hbw HBD HEND HB HB5
            generalize hab : anyBad l i = ab at hc2
            have HAB := Lib.hid hab
            clear hab
            cases bd with
            | false =>
              have hlast : RX w3 wc F tv l.length (ends p l (i + 1)) (anyBad l (i + 1)) (trail l (i + 1)) := by
                rw [HA1.out, HT1.out (.inl rfl), Bool.or_false]; exact HX7.out
              have HL := Lib.hid hlast
              clear hlast hc2
              go_wp2_with fail
              refine HBD7.out.mono ?_
              rintro e wx ⟨rfl, rfl⟩
              go_wp2
              go_roundw
              case rel => exact ⟨i + 1, tv, by omega, by go_num, HL.out⟩
              case measure => simp [intOf]; omega
            | true =>
              cases ab with
              | true =>
                have hlast : RX w3 wc F tv l.length (ends p l (i + 1)) (anyBad l (i + 1)) (trail l (i + 1)) := by
                  rw [HA1.out, HT1.out (.inr HAB.out), Bool.or_true, ← HAB.out]; exact HX7.out
                have HL := Lib.hid hlast
                clear hlast
                go_wp2_with fail
                refine HBD7.out.mono ?_
                rintro e wx ⟨rfl, rfl⟩
                go_wp2
                go_roundw
                case rel => exact ⟨i + 1, tv, by omega, by go_num, HL.out⟩
                case measure => simp [intOf]; omega
              | false =>
                have hf2 := HX7.out.free 2
                have hX8 : RX w3 (wc.setCell ⟨F, 2, none⟩ (.bool true)) F tv l.length (ends p l (i + 1)) true [] := by
                  have h7 := HX7.out
                  rw [trail_none HAB.out, HAB.out] at h7
                  exact h7.put2 true
                have HX8 := Lib.hid hX8
                have hbi := backs_len HLK.out i hlt
                clear hX8
                go_wp2_with fail
                refine HBD7.out.mono ?_
                rintro e wx ⟨rfl, rfl⟩
                go_wp2_with fail
                clear hc2 hf2 x0 x1
                generalize wx.setCell ⟨F, 2, none⟩ (.bool true) = w8 at HX8 ⊢
                go_loopw [9] (fun kv wx => ∃ (k : Nat) (tv' : Value) (xs : List Int), k < l.length ∧ kv = .int .i64 k ∧ (backs l k).reverse ++ xs = (backs l i).reverse ∧ RX w3 wx F tv' l.length (ends p l (i + 1)) true xs) (fun kv _ => (intOf kv).toNat)
                case atStart => exact ⟨i, tv, [], hlt, rfl, by simp, HX8.out⟩
                case round =>
                  clear HX8 HX7 HBD7
                  obtain ⟨k, tv', xs, hkl, rfl, hxs, hX⟩ := hrel
                  have hbw : Below w3.heap.size w3 wr := by rw [HF.out]; exact hX.below
                  have hfr := ints_at (HK.out.more hbw).fr (k := k) (by simpa using hkl)
                  have hby := ints_at (HK.out.more hbw).by' (k := k) (by simpa using hkl)
                  have ef : (l.map (·.fr)).getD k 0 = (l.getD k default).fr := by simp [List.getD_eq_getElem?_getD, hkl]
                  have ey : (l.map (·.by')).getD k 0 = (l.getD k default).by' := by simp [List.getD_eq_getElem?_getD, hkl]
                  rw [ef] at hfr
                  rw [ey] at hby
                  clear ef ey
                  have hxl : xs.length ≤ 20000 := by
                    have := congrArg List.length hxs
                    simp only [List.length_append, List.length_reverse] at this
                    omega
                  have hkli : (k : Int) < (l.length : Int) := by omega
                  have HXS := Lib.hid hxs
                  have HX := Lib.hid hX
                  clear hxs hX hbw
                  by_cases hf : (l.getD k default).fr ≥ 0
                  · obtain ⟨j, hj⟩ := Int.eq_ofNat_of_zero_le hf
                    change (l.getD k default).fr = ((j : Nat) : Int) at hj
                    obtain ⟨hjk, hbk⟩ := backs_go HLK.out hkl hj
                    rw [hj] at hfr
                    generalize (l.getD k default).by' = y at hby hbk
                    have HBK := Lib.hid hbk
                    have HJ := Lib.hid hj
                    have q3 := HX.out.c3
                    have qf := HX.out.free 3
                    have hFl := HX.out.ltw
                    have hal : Below wr.heap.size wr (wr.drew.alloc (.cells #[.int .i64 y] 3 (0, 0))) := ((Below.refl _ _).drew).alloc (Nat.le_refl _) _
                    have hX2 := HX.out.more hal
                    have hown : OwnS (wr.drew.alloc (.cells #[.int .i64 y] 3 (0, 0))) (F + 1) 1 (.slice (some ⟨wr.heap.size, 0, none⟩) 1 1) 1 [.int .i64 y] := ownS_base (ownS_new wr.drew #[.int .i64 y] 3 1 1 rfl (by decide)) hFl
                    have n1 : 1 + (ints xs).length ≤ maxLen := by simp only [ints, List.length_map]; unfold maxLen; omega
                    have n2 : (1 + (ints xs).length) * 8 ≤ 140737488355328 := by simp only [ints, List.length_map]; omega
                    have n5 : F + 1 ≤ (wr.drew.alloc (.cells #[.int .i64 y] 3 (0, 0))).heap.size := hX2.ltw
                    have HX2 := Lib.hid hX2
                    have HOWN := Lib.hid hown
                    have HRD := Lib.hid (OwnS.reads hX2.own)
                    have HAL := Lib.hid hal
                    have N1 := Lib.hid n1
                    have N2 := Lib.hid n2
                    have N5 := Lib.hid n5
                    clear hj hbk hf hX2 hown n1 n2 n5 hal
                    go_wp2_with fail
                    go_region_law (refine step_append_reads rfl (.tmp 79) (.tmp 81) 22 rfl (F + 1) 3 Try.t3 (.int .i64 0) 8 Try.underlying22 HI3.out rfl rfl rfl rfl (.slice (some ⟨wr.heap.size, 0, none⟩) 1 1) 1 [.int .i64 y] rfl HOWN.out tv' (ints xs) rfl HRD.out (ints_one xs) N1.out N2.out N5.out ?_; intro v9 w9 hv9 hg9 hob9; obtain ⟨qa, qn, qc, hqe⟩ := any_shape1 hv9; subst hqe; have r3 := (hg9.block F HX2.out.ltw (by simp [Value.ownBlock]; omega)).trans HX2.out.f; have k6 : w9.cell? ⟨F, 3, none⟩ = some tv' := (by simp [World.cell?, r3]); have k7 : w9.frozen? ⟨F, 3, none⟩ = false := (by simp [World.frozen?, r3]); have HV9 := Lib.hid hv9; have HG9 := Lib.hid hg9; clear r3 hv9 hg9 hob9)
                    all_goals (
                      have hX10 := HX.out.grew (v9 := .slice qa qn qc) (ys := y :: xs) HAL.out HG9.out (Nat.le_refl _) (by have h := HV9.out; rw [show 1 + (ints xs).length = (y :: xs).length by simp [ints]; omega] at h; exact h)
                      generalize w9.setCell ⟨F, 3, none⟩ (.slice qa qn qc) = w10 at hX10 ⊢
                      generalize (Value.slice qa qn qc) = v9 at hX10
                      have hbw : Below w3.heap.size w3 w10 := by rw [HF.out]; exact hX10.below
                      have hfr9 := ints_at (HK.out.more hbw).fr (k := k) (by simpa using hkl)
                      rw [show (l.map (·.fr)).getD k 0 = (l.getD k default).fr by simp [List.getD_eq_getElem?_getD, hkl], HJ.out] at hfr9
                      have HX10 := Lib.hid hX10
                      clear k6 k7 HV9 HG9 q3 qf hX10 hfr hby hbw
                      go_wp2
                      go_roundw
                      case rel => exact ⟨j, v9, y :: xs, by omega, rfl, by rw [← HXS.out, HBK.out, List.reverse_cons, List.append_assoc]; rfl, HX10.out⟩
                      case measure => simp [intOf]; omega)
                  · have hbs := backs_stop hf
                    have hxi : xs = (backs l i).reverse := by rw [← HXS.out, hbs]; rfl
                    have hfd : decide (0 ≤ (l.getD k default).fr) = false := by simpa [-List.getD_eq_getElem?_getD] using hf
                    generalize (l.getD k default).fr = fr at hfr hfd hf
                    have hlast : RX w3 wr F tv' l.length (ends p l (i + 1)) (anyBad l (i + 1)) (trail l (i + 1)) := by
                      rw [HA1.out, Bool.or_true, HT2.out trivial HAB.out, ← hxi]
                      exact HX.out
                    have HL := Lib.hid hlast
                    clear hby hbs hxi hlast
                    go_wp2
                    go_roundw
                    case rel => exact ⟨i + 1, tv', by omega, by go_num, HL.out⟩
                    case measure => simp [intOf]; omega
        · obtain rfl : i = l.length := by omega
          have hR := HR3.out.more hbw
          have hrs := (hbw.block (N + 1) (by rw [HF.out]; exact hFw)).trans HRES.out
          have hf := hX.f
          have hone := found_one l.length (ends p l l.length) (anyBad l l.length) tv (OwnS.one hX.own)
          have HR := Lib.hid hR
          have HX := Lib.hid hX
          have HFF := Lib.hid hf
          have HRS := Lib.hid hrs
          have HONE := Lib.hid hone
          clear hR hX hf hrs hone
          generalize hC : (#[.int .i64 l.length, .int .i64 (ends p l l.length), .bool (anyBad l l.length), tv] : Array Value) = C at HFF HONE
          have HC := Lib.hid hC
          clear hC
          go_wp2_with (first
            | refine wpList_load_row rfl 30 (.tmp 7) rfl F rfl 30 C (0, 0) _ HFF.out Try.underlying30 rfl (by rw [← HC.out]; exact info_found) ?_
            | refine wpList_store_row rfl 30 (.tmp 2) (.tmp 84) rfl (N + 1) C rfl rfl 30 _ HRS.out (by rw [← HC.out]; exact info_found) (by rw [← HC.out]; rfl) HONE.out ?_)
          refine bodyPost_ret (results_row_tmp rfl _ _ (N + 1) 30 C (0, 0) _ rfl (heap_setRow HRS.out) Try.underlying30 rfl (by rw [← HC.out]; exact info_found)) rfl ?_
          rw [HE.out, HN.out, ← HC.out]
          refine ⟨tv, below_setRow HR.out.below _ (by omega), rfl, ownS_base (OwnS.kept HX.out.own (grown_setRow _ _ _) ?_) (by omega)⟩
          cases hv : tv.ownBlock with
          | none => exact .inl rfl
          | some k => exact .inr fun e => by have := (HX.out.own.blk k hv).1; cases e; omega
    · have hR3 := hR2.more hb3
      have hN2 : N + 1 < w2.heap.size := by rw [Array.getElem?_eq_some_iff] at hres2; exact hres2.1
      have hres3 := (hb3.block _ hN2).trans hres2
      have he : exploreF p = (⟨0, 0, false, []⟩, 271) := by unfold exploreF; rw [if_pos hp, hg]
      have HE := Lib.hid he
      have HRES := Lib.hid hres3
      have HR3 := Lib.hid hR3
      clear he hg hres3 hres2 hR3 hR2 q0 q1
      go_wp2_with (refine wpList_store_row rfl 30 (.tmp 2) (.tmp 22) rfl (N + 1) #[.int .i64 0, .int .i64 0, .bool false, .slice none 0 0] rfl rfl 30 _ HRES.out info_found rfl (found_one 0 0 false _ rfl) ?_)
      refine bodyPost_ret (results_row_tmp rfl _ _ (N + 1) 30 #[.int .i64 0, .int .i64 0, .bool false, .slice none 0 0] (0, 0) _ rfl (heap_setRow HRES.out) Try.underlying30 rfl info_found) rfl ?_
      rw [HE.out, HN.out]
      exact ⟨_, below_setRow HR3.out.below _ (by omega), rfl, OwnS.nil _ _ _⟩
  · have he : exploreF p = (⟨0, 0, false, []⟩, 270) := by unfold exploreF; rw [if_neg hp]
    have hp' : check p = false := by simpa using hp
    have HE := Lib.hid he
    clear he
    have HRES := Lib.hid hres2
    clear hres2
    go_wp2_with (refine wpList_store_row rfl 30 (.tmp 2) (.tmp 13) rfl (N + 1) #[.int .i64 0, .int .i64 0, .bool false, .slice none 0 0] rfl rfl 30 _ HRES.out info_found rfl (found_one 0 0 false _ rfl) ?_)
    refine bodyPost_ret (results_row_tmp rfl _ _ (N + 1) 30 #[.int .i64 0, .int .i64 0, .bool false, .slice none 0 0] (0, 0) _ rfl (heap_setRow HRES.out) Try.underlying30 rfl info_found) rfl ?_
    rw [HE.out, HN.out]
    exact ⟨_, below_setRow hR2.below _ (by omega), rfl, OwnS.nil _ _ _⟩
end Go.Proofs.Ytmpgjnindbklaaa
