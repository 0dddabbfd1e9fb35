import Derived.Test.YtmpgjnindbklaaaEIsEnd
import Derived.Test.YtmpgjnindbklaaaEREnd
namespace Go.Proofs.Ytmpgjnindbklaaa
open Go.RowKit BA Ex

theorem flat_parts {p : Lt} {s : St} (hc : s.c.length = 28) (h8 : p.words.length ≤ 8) (hT : p.threads.length ≤ 4) : (flat p s).length = p.words.length + 5 * p.threads.length + 1 ∧ (flat p s).take p.words.length = s.c.take p.words.length ∧ ∀ k, k < p.threads.length → ((flat p s).drop (p.words.length + 5 * k + 1)).take 4 = (s.c.drop (12 + 4 * k)).take 4 := by
  obtain ⟨f1, _, f3, f4⟩ := full_get (s := s) hc h8 hT
  refine ⟨flat_len hc h8 hT, ?_, fun k hk => ?_⟩
  · unfold flat
    rw [List.take_append_of_le_length (by omega), f3]
  · unfold flat
    rw [List.drop_append_of_le_length (by omega), List.take_append_of_le_length (by rw [List.length_drop]; omega), show p.words.length + 5 * k + 1 = p.words.length + k * 5 + 1 by omega, f4 k hk]

set_option maxRecDepth 100000 in
set_option maxHeartbeats 4000000 in
theorem refRow_walk (sw st rv : Value) (p : Lt) (s : St) (w : World) (h : PHas w sw st p) (hr : Reads w rv (ints (flat p s))) (hc : s.c.length = 28) (h0 : p.words.length ≠ 0) (h8 : p.words.length ≤ 8) (hT : p.threads.length ≤ 4) :
    Calls Try.prog 35 #[.agg #[sw, st], rv] w fun e w' => ∃ v, e = .returned v ∧ OwnS w' w.heap.size 1 v (row p s).length (ints (row p s)) ∧ Below w.heap.size w w' := by
  obtain ⟨f1, f3, f4⟩ := flat_parts (s := s) hc h8 hT
  have hR := RChk.begin h
  have H0 := Lib.hid h
  have hr1 := reads_below hr ((Below.refl _ _).alloc (Nat.le_refl _) (.cells #[sw, st] 25 (0, 0)))
  have hi : Try.prog.info? 3 = some Try.t3 := by kernel_rfl
  have HI := Lib.hid hi
  clear hi
  obtain ⟨aw, cw, hw⟩ := h.words_shape
  obtain ⟨at0, ct, hst⟩ := h.threads.shape
  subst hw hst
  obtain ⟨rb, ro, rc, hv, hrb⟩ := ints_form hr (by omega)
  subst hv
  clear h hr
  have hrc := reads_cap hr1 (by omega)
  obtain ⟨hrc1, hrc2⟩ := hrc
  rw [f1] at hr1 hrc1 ⊢
  go_enter Try.func35, Try.ntmps35
  go_upto_region 1 with fail
  generalize hW : w.alloc (.cells #[.slice aw p.words.length cw, .slice at0 p.threads.length ct] 25 (0, 0)) = w1 at hR hr1 ⊢
  clear hW
  generalize hN : w.heap.size = N at hR hrb ⊢
  have HN := Lib.hid hN
  clear hN
  generalize hfl : flat p s = fl at hr1 f1 f3 f4
  have HF1 := Lib.hid f1
  have HF3 := Lib.hid f3
  have HF4 := Lib.hid f4
  have HR1 := Lib.hid hr1
  clear hfl f1 f3 f4 hr1
  have q0 := hR.cell0
  have q1 := hR.cell1
  have hNw : N < w1.heap.size := by have := hR.box; rw [Array.getElem?_eq_some_iff] at this; exact this.1
  have hpart := reads_part HR1.out HF1.out (i := 0) (n := p.words.length) (by omega) (by omega) rc (by omega) hrc2
  rw [Nat.add_zero, List.drop_zero, HF3.out] at hpart
  have n1 : 0 + (ints (s.c.take p.words.length)).length ≤ maxLen := by simp only [ints, List.length_map, List.length_take]; unfold maxLen; omega
  have n2 : (0 + (ints (s.c.take p.words.length)).length) * 8 ≤ 140737488355328 := by simp only [ints, List.length_map, List.length_take]; omega
  have n3 : N + 1 ≤ w1.heap.size := by omega
  have N1 := Lib.hid n1
  have N2 := Lib.hid n2
  have N3 := Lib.hid n3
  have HPT := Lib.hid hpart
  have HR := Lib.hid hR
  have g1 : (p.words.length : Int) ≤ (rc : Int) := by omega
  clear hpart n1 n2 n3 hR
  go_upto_region 2 with (at_builtin; refine wpList_append_reads _ rfl _ (.tmp 12) 22 rfl (N + 1) 3 Try.t3 (.int .i64 0) 8 Try.underlying22 HI.out rfl rfl rfl rfl (.slice none 0 0) 0 [] rfl (OwnS.nil _ _ _) (.slice (some ⟨rb, ro, none⟩) p.words.length rc) (ints (s.c.take p.words.length)) rfl HPT.out (ints_one _) N1.out N2.out N3.out ?_; intro v5 w5 hv5 hg5 hob5)
  have hO5 : OwnS w5 (N + 1) 1 v5 (rowTo p s.c 0).length (ints (rowTo p s.c 0)) := by
    have e0 : rowTo p s.c 0 = s.c.take p.words.length := by simp [rowTo]
    rw [e0]
    simpa [ints] using hv5
  have hb5 := below_grown hg5
  have hR5 := HR.out.more hb5
  have hr5 := reads_below HR1.out hb5
  have hN5 := Nat.le_trans N3.out hb5.size
  clear hv5 hg5 hob5 q0 q1 hb5 HR HPT N1 N2 N3 HR1
  go_wp2_with fail
  go_loopw [5, 6] (fun ov kv wr => ∃ k : Nat, k ≤ p.threads.length ∧ kv = .int .i64 k ∧ RChk w wr N (.slice aw p.words.length cw) (.slice at0 p.threads.length ct) p ∧ Reads wr (.slice (some ⟨rb, ro, none⟩) (p.words.length + 5 * p.threads.length + 1) rc) (ints fl) ∧ OwnS wr (N + 1) 1 ov (rowTo p s.c k).length (ints (rowTo p s.c k)) ∧ N + 1 ≤ wr.heap.size) (fun _ kv _ => p.threads.length - (intOf kv).toNat)
  case atStart => exact ⟨0, by omega, rfl, hR5, hr5, hO5, hN5⟩
  case round =>
    clear hR5 hr5 hO5 hN5
    obtain ⟨k, hk, rfl, hR, hr, hO, hBs⟩ := hrel
    have q0 := hR.cell0
    have q1 := hR.cell1
    by_cases hlt : k < p.threads.length
    · go_wp2_with fail
      refine (refAt_walk _ _ p k wr hR.has h8 (by omega)).mono ?_
      rintro e w2 ⟨rfl, hb2⟩
      have hR2 := hR.more hb2
      have hr2 := reads_below hr hb2
      have hO2 := OwnS.below hO hb2
      have hB2 := Nat.le_trans hBs hb2.size
      clear hR hr hO hb2 hBs q0 q1
      have hlk := rowTo_len (p := p) hc h8 (k := k) (by omega)
      have hpart := reads_part hr2 HF1.out (i := p.words.length + 5 * k + 1) (n := 4) (by omega) (by omega) (rc - (p.words.length + 5 * k + 1)) (by omega) (by omega)
      rw [HF4.out k hlt] at hpart
      have hl4 : (ints ((s.c.drop (12 + 4 * k)).take 4)).length = 4 := by simp [ints]; omega
      have n1 : (rowTo p s.c k).length + (ints ((s.c.drop (12 + 4 * k)).take 4)).length ≤ maxLen := by rw [hl4]; unfold maxLen; omega
      have n2 : ((rowTo p s.c k).length + (ints ((s.c.drop (12 + 4 * k)).take 4)).length) * 8 ≤ 140737488355328 := by rw [hl4]; omega
      have HR := Lib.hid hR2
      have Hr := Lib.hid hr2
      have HO := Lib.hid hO2
      have HPT := Lib.hid hpart
      have HL4 := Lib.hid hl4
      have N1 := Lib.hid n1
      have N2 := Lib.hid n2
      clear hR2 hr2 hO2 hpart hl4 n1 n2 hlk
      generalize hj : p.words.length + 5 * k = j at HPT ⊢
      have hjj : (j : Int) + 5 ≤ (rc : Int) := by omega
      have hjj2 : (j : Int) + 1 ≤ (rc : Int) := by omega
      have hm3 : IntKind.i64.wrap ((j : Int) + 1) = ((j + 1 : Nat) : Int) := by rw [wrap_w64]; unfold w64 RowKit.wrap64; omega
      have hm4 : IntKind.i64.wrap ((j : Int) + 5) = ((j + 5 : Nat) : Int) := by rw [wrap_w64]; unfold w64 RowKit.wrap64; omega
      have hcj : ¬ rc = j + 1 := by omega
      have hpt2 : Reads w2 (.slice (some ⟨rb, ro + (j + 1), none⟩) (j + 5 - (j + 1)) (rc - (j + 1))) (ints ((s.c.drop (12 + 4 * k)).take 4)) := by rw [show j + 5 - (j + 1) = 4 by omega]; exact HPT.out
      have HPT2 := Lib.hid hpt2
      have HJ := Lib.hid hj
      clear hpt2 hj HPT
      go_wp2_with (at_builtin; (refine wpList_append_reads _ rfl (.tmp 24) (.tmp 30) 22 rfl (N + 1) 3 Try.t3 (.int .i64 0) 8 Try.underlying22 HI.out rfl rfl rfl rfl u5 (rowTo p s.c k).length (ints (rowTo p s.c k)) rfl HO.out (.slice (some ⟨rb, ro + (j + 1), none⟩) (j + 5 - (j + 1)) (rc - (j + 1))) (ints ((s.c.drop (12 + 4 * k)).take 4)) rfl HPT2.out (ints_one _) N1.out N2.out hB2 ?_); intro v8 w8 hv8 hg8 hob8)
      go_roundw
      case rel =>
        have hb8 : w8.heap[rb]? = w2.heap[rb]? := hg8.block rb (by have := HR.out.below.size; omega) (fun e => by have := (HO.out.blk rb e.symm).1; omega)
        refine ⟨k + 1, by omega, by go_num, HR.out.grown H0.out HN.out hg8 (fun i hi => by have := (HO.out.blk i hi).1; omega), reads_blk Hr.out hb8, ?_, Nat.le_trans hB2 hg8.size⟩
        rw [rowTo_succ, ints_append, List.length_append, show ((s.c.drop (12 + 4 * k)).take 4).length = (ints ((s.c.drop (12 + 4 * k)).take 4)).length by simp [ints]]
        exact hv8
      case measure => simp [intOf]; omega
    · obtain rfl : k = p.threads.length := by omega
      have HR := Lib.hid hR
      have HO := Lib.hid hO
      clear hR hO hr
      go_wp2
      go_returns
      exact ⟨_, rfl, by rw [row_to, HN.out]; exact ownS_base HO.out (by omega), by rw [HN.out]; exact HR.out.below⟩
end Go.Proofs.Ytmpgjnindbklaaa
