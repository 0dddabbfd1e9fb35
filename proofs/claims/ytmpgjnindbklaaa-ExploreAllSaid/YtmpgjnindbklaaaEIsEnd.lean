import Derived.Test.YtmpgjnindbklaaaEEnded
namespace Go.Proofs.Ytmpgjnindbklaaa
open Go.RowKit BA Ex

theorem reads_cap {w : World} {b o L c : Nat} {xs : List Int} (h : Reads w (.slice (some ⟨b, o, none⟩) L c) (ints xs)) (hx : 0 < xs.length) : xs.length ≤ c ∧ c ≤ maxLen := by
  rcases h with ⟨h0, _⟩ | ⟨_, b', o', c'', hv, h1, h2, _⟩
  · have h3 : (ints xs).length = 0 := by rw [h0]; rfl
    simp only [ints, List.length_map] at h3
    omega
  · cases hv
    simp only [ints, List.length_map] at h1
    exact ⟨h1, h2⟩
theorem reads_blk {w w' : World} {b o L c : Nat} {xs : List Value} (h : Reads w (.slice (some ⟨b, o, none⟩) L c) xs) (hb : w'.heap[b]? = w.heap[b]?) : Reads w' (.slice (some ⟨b, o, none⟩) L c) xs := by
  rcases h with h | ⟨hne, b', o', c', hv, h1, h2, h3⟩
  · exact .inl h
  · cases hv
    exact .inr ⟨hne, b, o, c, rfl, h1, h2, fun i u hu => (World.cell?_of_block (a := ⟨b, o + i, none⟩) (w := w) hb).trans (h3 i u hu)⟩
/-- A part of a row of numbers reads as that part. -/
theorem reads_part {w : World} {b o L c : Nat} {xs : List Int} (h : Reads w (.slice (some ⟨b, o, none⟩) L c) (ints xs)) (hL : xs.length = L) {i n : Nat} (hi : i + n ≤ L) (hn : 0 < n) (c' : Nat) (hc : n ≤ c') (hc' : c' ≤ maxLen) :
    Reads w (.slice (some ⟨b, o + i, none⟩) n c') (ints ((xs.drop i).take n)) := by
  have hl : ((xs.drop i).take n).length = n := by rw [List.length_take, List.length_drop]; omega
  have hl' : (ints ((xs.drop i).take n)).length = n := by simp only [ints, List.length_map]; exact hl
  refine .inr ⟨fun e => ?_, b, o + i, c', by rw [hl'], by rw [hl']; exact hc, hc', fun j u hu => ?_⟩
  · rw [e] at hl'
    simp at hl'
    omega
  · rcases h with ⟨h0, _⟩ | ⟨_, b', o', c'', hv, _, _, h3⟩
    · have h4 : (ints xs).length = 0 := by rw [h0]; rfl
      simp only [ints, List.length_map] at h4
      omega
    · cases hv
      have hj : j < n := by
        have := (List.getElem?_eq_some_iff.1 hu).1
        omega
      have := h3 (i + j) u (by
        simp only [ints, List.getElem?_map, List.getElem?_take, List.getElem?_drop, if_pos hj] at hu ⊢
        exact hu)
      rw [Nat.add_assoc]
      exact this

theorem endsF_len (p : Lt) : (endsF p).1.length ≤ 1000000 ∧ ∀ k, ((endsF p).1.getD k []).length ≤ 1000000 := by
  unfold endsF
  split
  · rename_i hp
    obtain ⟨⟨_, h8, _, h4⟩, _⟩ := check_facts hp
    cases hg : goes p with
    | none => exact ⟨by simp, fun k => by simp⟩
    | some l =>
      have hsh := (goes_reach hg).short
      have hm : most = 20000 := rfl
      have hl := endRows_len p l l.length
      have hpl := (sortL_perm (endRows p l l.length)).length_eq
      refine ⟨by show (sortL _).length ≤ _; omega, fun k => ?_⟩
      show ((sortL (endRows p l l.length)).getD k []).length ≤ _
      by_cases hk : k < (sortL (endRows p l l.length)).length
      · have e : (sortL (endRows p l l.length)).getD k [] = (sortL (endRows p l l.length))[k] := by simp [List.getD_eq_getElem?_getD, hk]
        rw [e]
        exact endRows_short h8 h4 _ ((sortL_perm _).mem_iff.1 (List.getElem_mem hk))
      · have e : (sortL (endRows p l l.length)).getD k [] = [] := by simp [List.getD_eq_getElem?_getD, Nat.le_of_not_lt hk]
        rw [e]; simp
  · exact ⟨by simp, fun k => by simp⟩

set_option maxRecDepth 100000 in
set_option maxHeartbeats 4000000 in
theorem isEnd_walk (sw st rv : Value) (p : Lt) (s : St) (w : World) (h : PHas w sw st p) (hin : PIn p) (hs : smallB p = true) (hr : Reads w rv (ints (full p s))) (hc : s.c.length = 28) (h0 : p.words.length ≠ 0) (h8 : p.words.length ≤ 8) (hT : p.threads.length ≤ 4) :
    Calls Try.prog 24 #[.agg #[sw, st], rv] w fun e w' => e = .returned (.bool (decide (row p s ∈ (endsF p).1))) ∧ Below w.heap.size w w' := by
  obtain ⟨f1, _, f3, f4⟩ := full_get (s := s) hc h8 hT
  have hR := RChk.begin h
  have H0 := Lib.hid h
  have hr1 := reads_below hr ((Below.refl _ _).alloc (Nat.le_refl _) (.cells #[sw, st] 25 (0, 0)))
  have hi : Try.prog.info? 3 = some Try.t3 := by kernel_rfl
  have HI := Lib.hid hi
  clear hi
  obtain ⟨aw, cw, hw⟩ := h.words_shape
  obtain ⟨at0, ct, hst⟩ := h.threads.shape
  subst hw hst
  obtain ⟨rb, ro, rc, hv, hrb⟩ := ints_form hr (by omega)
  subst hv
  clear h hr
  have hrc := reads_cap hr1 (by omega)
  obtain ⟨hrc1, hrc2⟩ := hrc
  rw [f1] at hr1 hrc1 ⊢
  go_enter Try.func24, Try.ntmps24
  go_upto_region 1 with fail
  generalize hW : w.alloc (.cells #[.slice aw p.words.length cw, .slice at0 p.threads.length ct] 25 (0, 0)) = w1 at hR hr1 ⊢
  clear hW
  generalize hN : w.heap.size = N at hR hrb ⊢
  have HN := Lib.hid hN
  clear hN
  generalize hfl : full p s = fl at hr1 f1 f3 f4
  have HF1 := Lib.hid f1
  have HF3 := Lib.hid f3
  have HF4 := Lib.hid f4
  have HR1 := Lib.hid hr1
  clear hfl f1 f3 f4 hr1
  have q0 := hR.cell0
  have q1 := hR.cell1
  have hNw : N < w1.heap.size := by have := hR.box; rw [Array.getElem?_eq_some_iff] at this; exact this.1
  have hpart := reads_part HR1.out HF1.out (i := 0) (n := p.words.length) (by omega) (by omega) rc (by omega) hrc2
  rw [Nat.add_zero, List.drop_zero, HF3.out] at hpart
  have n1 : 0 + (ints (s.c.take p.words.length)).length ≤ maxLen := by simp only [ints, List.length_map, List.length_take]; unfold maxLen; omega
  have n2 : (0 + (ints (s.c.take p.words.length)).length) * 8 ≤ 140737488355328 := by simp only [ints, List.length_map, List.length_take]; omega
  have n3 : N + 1 ≤ w1.heap.size := by omega
  have N1 := Lib.hid n1
  have N2 := Lib.hid n2
  have N3 := Lib.hid n3
  have HPT := Lib.hid hpart
  have HR := Lib.hid hR
  have g1 : (p.words.length : Int) ≤ (rc : Int) := by omega
  clear hpart n1 n2 n3 hR
  go_upto_region 2 with (at_builtin; refine wpList_append_reads _ rfl _ (.tmp 15) 22 rfl (N + 1) 3 Try.t3 (.int .i64 0) 8 Try.underlying22 HI.out rfl rfl rfl rfl (.slice none 0 0) 0 [] rfl (OwnS.nil _ _ _) (.slice (some ⟨rb, ro, none⟩) p.words.length rc) (ints (s.c.take p.words.length)) rfl HPT.out (ints_one _) N1.out N2.out N3.out ?_; intro v5 w5 hv5 hg5 hob5)
  have hO5 : OwnS w5 (N + 1) 1 v5 (rowTo p s.c 0).length (ints (rowTo p s.c 0)) := by
    have e0 : rowTo p s.c 0 = s.c.take p.words.length := by simp [rowTo]
    rw [e0]
    simpa [ints] using hv5
  have hb5 := below_grown hg5
  have hR5 := HR.out.more hb5
  have hr5 := reads_below HR1.out hb5
  have hN5 := Nat.le_trans N3.out hb5.size
  clear hv5 hg5 hob5 q0 q1 hb5 HR HPT N1 N2 N3 HR1
  go_wp2_with fail
  go_loopw [5, 6] (fun ov kv wr => ∃ k : Nat, k ≤ p.threads.length ∧ kv = .int .i64 k ∧ RChk w wr N (.slice aw p.words.length cw) (.slice at0 p.threads.length ct) p ∧ Reads wr (.slice (some ⟨rb, ro, none⟩) (p.words.length + 5 * p.threads.length) rc) (ints fl) ∧ OwnS wr (N + 1) 1 ov (rowTo p s.c k).length (ints (rowTo p s.c k)) ∧ N + 1 ≤ wr.heap.size) (fun _ kv _ => p.threads.length - (intOf kv).toNat)
  case atStart => exact ⟨0, by omega, rfl, hR5, hr5, hO5, hN5⟩
  case round =>
    clear hR5 hr5 hO5 hN5
    obtain ⟨k, hk, rfl, hR, hr, hO, hBs⟩ := hrel
    have q0 := hR.cell0
    have q1 := hR.cell1
    by_cases hlt : k < p.threads.length
    · have hlk := rowTo_len (p := p) hc h8 (k := k) (by omega)
      have hpart := reads_part hr HF1.out (i := p.words.length + k * 5 + 1) (n := 4) (by omega) (by omega) (rc - (p.words.length + k * 5 + 1)) (by omega) (by omega)
      rw [HF4.out k hlt] at hpart
      have hl4 : (ints ((s.c.drop (12 + 4 * k)).take 4)).length = 4 := by simp [ints]; omega
      have n1 : (rowTo p s.c k).length + (ints ((s.c.drop (12 + 4 * k)).take 4)).length ≤ maxLen := by rw [hl4]; unfold maxLen; omega
      have n2 : ((rowTo p s.c k).length + (ints ((s.c.drop (12 + 4 * k)).take 4)).length) * 8 ≤ 140737488355328 := by rw [hl4]; omega
      have HR := Lib.hid hR
      have Hr := Lib.hid hr
      have HO := Lib.hid hO
      have HPT := Lib.hid hpart
      have HL4 := Lib.hid hl4
      have N1 := Lib.hid n1
      have N2 := Lib.hid n2
      clear hR hr hO hpart hl4 n1 n2 hlk
      generalize hj : p.words.length + k * 5 + 1 = j at HPT
      have hjj : (j : Int) + 4 ≤ (rc : Int) := by omega
      have hm1 : IntKind.i64.wrap ((k : Int) * 5) = (k : Int) * 5 := by rw [wrap_w64]; unfold w64 RowKit.wrap64; omega
      have hm2 : IntKind.i64.wrap ((p.words.length : Int) + (k : Int) * 5) = (p.words.length : Int) + (k : Int) * 5 := by rw [wrap_w64]; unfold w64 RowKit.wrap64; omega
      have hm3 : IntKind.i64.wrap ((p.words.length : Int) + (k : Int) * 5 + 1) = (j : Int) := by rw [wrap_w64]; unfold w64 RowKit.wrap64; omega
      have hm4 : IntKind.i64.wrap ((j : Int) + 4) = ((j + 4 : Nat) : Int) := by rw [wrap_w64]; unfold w64 RowKit.wrap64; omega
      have hcj : ¬ rc = j := by omega
      have hpt2 : Reads wr (.slice (some ⟨rb, ro + j, none⟩) (j + 4 - j) (rc - j)) (ints ((s.c.drop (12 + 4 * k)).take 4)) := by rw [show j + 4 - j = 4 by omega]; exact HPT.out
      have HPT2 := Lib.hid hpt2
      clear hpt2
      go_wp2_with (at_builtin; (refine wpList_append_reads _ rfl (.tmp 30) (.tmp 37) 22 rfl (N + 1) 3 Try.t3 (.int .i64 0) 8 Try.underlying22 HI.out rfl rfl rfl rfl u5 (rowTo p s.c k).length (ints (rowTo p s.c k)) rfl HO.out (.slice (some ⟨rb, ro + j, none⟩) (j + 4 - j) (rc - j)) (ints ((s.c.drop (12 + 4 * k)).take 4)) rfl HPT2.out (ints_one _) N1.out N2.out hBs ?_); intro v8 w8 hv8 hg8 hob8)
      go_roundw
      case rel =>
        have hb8 : w8.heap[rb]? = wr.heap[rb]? := hg8.block rb (by have := HR.out.below.size; omega) (fun e => by have := (HO.out.blk rb e.symm).1; omega)
        refine ⟨k + 1, by omega, by go_num, HR.out.grown H0.out HN.out hg8 (fun i hi => by have := (HO.out.blk i hi).1; omega), reads_blk Hr.out hb8, ?_, Nat.le_trans hBs hg8.size⟩
        rw [rowTo_succ, ints_append, List.length_append, show ((s.c.drop (12 + 4 * k)).take 4).length = (ints ((s.c.drop (12 + 4 * k)).take 4)).length by simp [ints]]
        exact hv8
      case measure => simp [intOf]; omega
    · obtain rfl : k = p.threads.length := by omega
      have HR := Lib.hid hR
      have HO := Lib.hid hO
      clear hR hO hr
      go_wp2_with fail
      refine (copied_walk _ _ p wr HR.out.has hs).mono ?_
      rintro e w4 ⟨wv, qv, vs, rfl, hwv, hcp, hb4⟩
      have HP4 := Lib.hid (⟨OwnS.reads hwv, hcp.threads⟩ : PHas w4 wv qv p)
      have HR4 := Lib.hid (HR.out.more hb4)
      have HO4 := Lib.hid (OwnS.below HO.out hb4)
      clear hwv hcp hb4 HR HO q0 q1 hBs
      go_wp2_with fail
      refine (ends_walk _ _ p w4 HP4.out hin).mono ?_
      rintro e w5 ⟨lv, ls, hb5, rfl, hG5⟩
      have HR5 := Lib.hid (HR4.out.more hb5)
      have HO5 := Lib.hid (OwnS.below HO4.out hb5).reads
      have HG5 := Lib.hid hG5.igrid
      clear hb5 hG5 HR4 HO4 HP4
      obtain ⟨rows_len, rows_row⟩ := endsF_len p
      generalize hE : endsF p = F at HG5 rows_len rows_row ⊢
      have HE := Lib.hid hE
      clear hE
      obtain ⟨rows, er⟩ := F
      dsimp only at HG5 rows_len rows_row ⊢
      rw [← row_to p s] at HO5
      generalize hRW : row p s = rw at HO5
      have HRW := Lib.hid hRW
      clear hRW
      obtain ⟨la, lc, hle⟩ := HG5.out.shape
      subst hle
      have HRL := Lib.hid rows_row
      clear rows_row
      go_wp2_with fail
      go_loopw [10] (fun iv wr => ∃ i : Nat, i ≤ rows.length ∧ iv = .int .i64 i ∧ RChk w wr N (.slice aw p.words.length cw) (.slice at0 p.threads.length ct) p ∧ IGrid wr (.slice la rows.length lc) rows ∧ Reads wr u5 (ints rw) ∧ ∀ j, j < i → rows.getD j [] ≠ rw) (fun iv _ => rows.length - (intOf iv).toNat)
      case atStart => exact ⟨0, by omega, rfl, HR5.out, HG5.out, HO5.out, fun j hj => by omega⟩
      case round =>
        clear HR5 HG5 HO5
        obtain ⟨i, hil, rfl, hR, hG, hO, hA⟩ := hrel
        by_cases hlt : i < rows.length
        · obtain ⟨gb, go, gc, u, hv, hcell, hru⟩ := hG.at' hlt
          cases hv
          have HR := Lib.hid hR
          have HG := Lib.hid hG
          have HO := Lib.hid hO
          have HA := Lib.hid hA
          have HRU := Lib.hid hru
          have hil2 : (i : Int) < (rows.length : Int) := by omega
          clear hR hG hO hA hru
          go_wp2_with fail
          refine (ints_walk u u5 (rows.getD i []) rw wr HRU.out HO.out (HRL.out i)).mono ?_
          rintro e w9 ⟨rfl, hb9⟩
          have HR9 := Lib.hid (HR.out.more hb9)
          have HG9 := Lib.hid (HG.out.below hb9)
          have HO9 := Lib.hid (reads_below HO.out hb9)
          clear hb9 HR HG HO hcell
          by_cases he : rows.getD i [] = rw
          · have hmem : rw ∈ rows := by
              rw [← he]
              have e : rows.getD i [] = rows[i] := by simp [List.getD_eq_getElem?_getD, hlt]
              rw [e]
              exact List.getElem_mem hlt
            have hd : decide (row p s ∈ (endsF p).1) = true := decide_eq_true (by rw [HE.out, HRW.out]; exact hmem)
            have HD := Lib.hid hd
            rw [decide_eq_true he]
            clear he hmem hd
            go_wp2
            go_ret
            exact ⟨by rw [HD.out]; rfl, by rw [HN.out]; exact HR9.out.below⟩
          · have hA2 : ∀ j, j < i + 1 → rows.getD j [] ≠ rw := fun j hj => by
              by_cases hji : j = i
              · subst hji; exact he
              · exact HA.out j (by omega)
            have HA2 := Lib.hid hA2
            rw [decide_eq_false he]
            clear he hA2
            go_wp2
            go_roundw
            case rel => exact ⟨i + 1, by omega, by go_num, HR9.out, HG9.out, HO9.out, HA2.out⟩
            case measure => simp [intOf]; omega
        · obtain rfl : i = rows.length := by omega
          have hd : decide (row p s ∈ (endsF p).1) = false := decide_eq_false (fun hh => by
            rw [HE.out, HRW.out] at hh
            obtain ⟨j, hj, e⟩ := List.getElem_of_mem hh
            have hj' : j < rows.length := hj
            exact hA j hj' (by rw [List.getD_eq_getElem?_getD, List.getElem?_eq_getElem hj']; exact e))
          have HD := Lib.hid hd
          have HR := Lib.hid hR
          clear hd hA hR hG hO
          go_wp2
          go_ret
          exact ⟨by rw [HD.out]; rfl, by rw [HN.out]; exact HR.out.below⟩
end Go.Proofs.Ytmpgjnindbklaaa
