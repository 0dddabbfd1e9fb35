import Derived.Test.YtmpgjnindbklaaaEMets
import Derived.Test.YtmpgjnindbklaaaEFollow
import Derived.Test.YtmpgjnindbklaaaERFirst
import Derived.WalkMore
namespace Go.Proofs.Ytmpgjnindbklaaa
open Go.RowKit BA Ex

theorem cell_keep {w w' : World} (h : Below w.heap.size w w') {a : Addr} {u : Value} (hc : w.cell? a = some u) : w'.cell? a = some u :=
  (World.cell?_of_block (w := w) (h.block a.block (World.block_lt_of_cell? w _ hc))).trans hc

set_option maxRecDepth 100000 in
set_option maxHeartbeats 4000000 in
theorem goes_walk (sw st : Value) (p : Lt) (w : World) (h : PHas w sw st p) (hp : check p = true) (hin : PIn p) :
    Calls Try.prog 29 #[.agg #[sw, st]] w fun e w' => ∃ v, Below w.heap.size w w' ∧
      ((∃ l, goes p = some l ∧ LInv p l ∧ e = .returned (.tuple #[v, .int .i64 0]) ∧ OwnS w' w.heap.size 31 v l.length (flatM l)) ∨ (goes p = none ∧ e = .returned (.tuple #[.slice none 0 0, .int .i64 271]))) := by
  obtain ⟨⟨_, h8, _, h4⟩, _⟩ := check_facts hp
  have hR := RChk.begin h
  have H0 := Lib.hid h
  clear h
  go_enter Try.func29, Try.ntmps29
  go_upto_region 1 with fail
  generalize hW : w.alloc (.cells #[sw, st] 25 (0, 0)) = w1 at hR ⊢
  clear hW
  generalize hN : w.heap.size = N at hR ⊢
  have HN := Lib.hid hN
  clear hN
  have q0 := hR.cell0
  have q1 := hR.cell1
  go_wp2_with fail
  refine (begins_walk _ _ p w1 hR.has h8).mono ?_
  rintro e w2 ⟨rfl, hb2⟩
  have hR2 := hR.more hb2
  clear hR hb2 q0 q1
  have hmk : ∀ w, (Instr.makeMap 91 none).run Try.prog w = .ok (.map (some w.heap.size)) (w.alloc (.map #[] 0)) := fun w => by simp [Instr.makeMap, go_sem]
  have hfc := first_len h8
  have hbt := built_met hfc false (-1) (-1)
  have hfl := fill_met hfc false (-1) (-1)
  have him : Try.prog.info? 72 = some Try.t72 := by kernel_rfl
  have hms := metC_len (m := ⟨⟨(first p).c, false⟩, -1, -1⟩) hfc
  have HBT := Lib.hid hbt
  have HFL := Lib.hid hfl
  have HIM := Lib.hid him
  clear hbt hfl him
  generalize hA : stA (first p).c false = A at HBT
  have HA := Lib.hid hA
  clear hA
  generalize hC : (metC ⟨⟨(first p).c, false⟩, -1, -1⟩).toArray = C at HBT HFL
  have HC := Lib.hid hC
  clear hC
  go_upto_region 2 with (refine wpList_buildTo (o := ⟨some 14, _, _, _, _, _⟩) rfl 72 #[(0, .tmp 13), (1, .const (.int .i64 (-1))), (2, .const (.int .i64 (-1)))] rfl (some 14) rfl C (by simp only [List.map_toArray, List.map_cons, List.map_nil]; exact HBT.out) ?_; refine wpList_buildSlice rfl 62 72 1 #[(0, .tmp 14)] rfl C Try.t72 (Try.t72.zero.getD undef) Try.underlying62 HIM.out rfl (by decide) (by decide) (by simp only [List.map_toArray, List.map_cons, List.map_nil]; go_loud (exact HFL.out)) ?_)
  have hB3 : Below w2.heap.size w2 (w2.alloc (.cells C 72 (0, 0))) := (Below.refl _ _).alloc (Nat.le_refl _) _
  have hR3 := hR2.more hB3
  have hb3 : (w2.alloc (.cells C 72 (0, 0))).heap[w2.heap.size]? = some (.cells C 72 (0, 0)) := heap_alloc_new _ _
  have hNB : N < w2.heap.size := by have := hR2.box; rw [Array.getElem?_eq_some_iff] at this; exact this.1
  clear hR2 hB3
  generalize w2.alloc (.cells C 72 (0, 0)) = w3 at hR3 hb3 ⊢
  generalize w2.heap.size = B at hb3 hNB ⊢
  have hBl : B < w3.heap.size := by rw [Array.getElem?_eq_some_iff] at hb3; exact hb3.1
  have hrg : (w3.alloc (.map #[] 0)).rangeAt B 0 A.toList := fun j v hj => by
    have hj' : j < A.toList.length := (List.getElem?_eq_some_iff.1 hj).1
    have hbb : (w3.alloc (.map #[] 0)).heap[B]? = some (.cells C 72 (0, 0)) := (Below.heap_alloc _ _ _ hBl).trans hb3
    have hCj : C[j]? = A.toList[j]? := by
      rw [← HC.out, ← HA.out]
      simp only [List.getElem?_toArray, metC]
      rw [List.getElem?_append_left (by rw [HA.out]; exact hj')]
    simp only [World.cell?, hbb, Nat.zero_add]
    rw [hCj]; exact hj
  have hlA : A.toList.length = 29 := by rw [← HA.out]; simp [stA, ints, hfc]
  have hiA : (Try.prog.info? 70).map (·.size) = some A.toList.length := by rw [hlA]; exact info_state
  have HRG := Lib.hid hrg
  have HIA := Lib.hid hiA
  clear hrg hiA hlA
  obtain ⟨w5, hrun, hM5, hg5⟩ := (MapSt.made w3).store (first p) hfc (fun i _ => first_in hin i) 0 inR_zero (by simp)
  have hA' : stA (first p).c (first p).bad = A := HA.out
  rw [hA'] at hrun
  have hal3 : Below w3.heap.size w3 (w3.alloc (.map #[] 0)) := (Below.refl _ _).alloc (Nat.le_refl _) _
  have hR5 := ((hR3.more hal3).grown H0.out HN.out hg5 (fun k hk => by cases hk; omega))
  have hO5 : OwnS w5 (N + 1) 31 (.slice (some ⟨B, 0, none⟩) 1 1) 1 (flatM [⟨first p, -1, -1⟩]) := by
    have h0 : OwnS w3 (N + 1) 31 (.slice (some ⟨B, 0, none⟩) 1 1) 1 (flatM [⟨first p, -1, -1⟩]) := by
      have hfl1 : flatM [⟨first p, -1, -1⟩] = C.toList := by rw [← HC.out]; simp [flatM]; rfl
      have hl31 : C.toList.length = 31 := by rw [← HC.out]; exact hms
      exact ⟨_, by rw [hfl1, hl31], .inr ⟨B, 1, C, rfl, by omega, hb3, Nat.le_refl _, by decide, by rw [← Array.length_toList, hl31], by rw [hfl1, Nat.one_mul, ← hl31]; exact List.take_length⟩⟩
    refine (OwnS.alloc h0 _).kept hg5 (.inr fun e => ?_)
    simp only [Value.ownBlock, Option.some.injEq] at e
    omega
  clear hR3 hb3 hal3 hg5 hA'
  have HM := Lib.hid hM5
  have HR5 := Lib.hid hR5
  have HO5 := Lib.hid hO5
  clear hM5 hR5 hO5
  go_wp2_with (refine wpList_load_mid rfl 70 (.tmp 19) rfl B 0 rfl A.toList _ HRG.out Try.underlying70 rfl HIA.out ?_)
  generalize w3.heap.size = M at HM hBl ⊢
  have hMN : N + 1 ≤ M := by omega
  have hBM : B ≠ M := by omega
  clear hrun hBl hfc hms hmk
  go_loopw [4, 6] (fun lv iv wr => ∃ (l : List Ex.Met) (i : Nat), LInv p l ∧ atRound p i l ∧ i ≤ l.length ∧ iv = .int .i64 i ∧ RChk w wr N sw st p ∧ OwnS wr (N + 1) 31 lv l.length (flatM l) ∧ MapSt wr M (l.map (·.s)) ∧ lv.ownBlock ≠ some M) (fun _ iv _ => 20001 - (intOf iv).toNat)
  case atStart => exact ⟨[⟨first p, -1, -1⟩], 0, LInv.first hp hin, atRound_first p, by simp, rfl, HR5.out, HO5.out, HM.out, by simp [Value.ownBlock, hBM]⟩
  case round =>
    clear HR5 HO5 HM
    obtain ⟨l, i, hI, hA, hil, rfl, hR, hO, hM, hne⟩ := hrel
    have hsh := hI.short
    have h0 := hI.some'
    have hwl : ∀ m ∈ l, m.s.c.length = 28 := fun m hm => (hI.wf m hm).1.len
    by_cases hlt : i < l.length
    · obtain ⟨b, cap, hv, hNb, hbl, hrg, hcb, hfr, hby⟩ := mets_at hO hwl hlt
      subst hv
      have hIn := atRound_in hA hlt hsh
      have q1 := hR.cell1
      obtain ⟨at0, ct, hst⟩ := (hR.has).threads.shape
      subst hst
      have hili : (i : Int) < (l.length : Int) := by omega
      have HO := Lib.hid hO
      have HR := Lib.hid hR
      have HM := Lib.hid hM
      have HI := Lib.hid hI
      have HIN := Lib.hid hIn
      clear hA hIn hrg hcb hfr hby hO hR hM hI
      go_wp2_with fail
      go_step3
      go_wp2_with fail
      go_step3
      go_wp2_with fail
      go_loopw [4, 31] (fun lv kv wr => ∃ (l : List Ex.Met) (k : Nat), LInv p l ∧ inRound p i l k ∧ i < l.length ∧ k ≤ p.threads.length ∧ kv = .int .i64 k ∧ RChk w wr N sw (.slice at0 p.threads.length ct) p ∧ OwnS wr (N + 1) 31 lv l.length (flatM l) ∧ MapSt wr M (l.map (·.s)) ∧ lv.ownBlock ≠ some M) (fun _ kv _ => p.threads.length - (intOf kv).toNat)
      case atStart => exact ⟨l, 0, HI.out, HIN.out, hlt, by omega, rfl, HR.out, HO.out, HM.out, hne⟩
      case round =>
        clear HI HIN HR HO HM hwl hlt hili hsh h0
        obtain ⟨l2, k, hI, hIn, hil2, hkT, rfl, hR, hO, hM, hne2⟩ := hrel
        by_cases hk : k < p.threads.length
        · --[ROUND
          have hwl2 : ∀ m ∈ l2, m.s.c.length = 28 := fun m hm => (hI.wf m hm).1.len
          obtain ⟨b2, cap2, hv2, hNb2, hbl2, hrg2, _, _, _⟩ := mets_at hO hwl2 hil2
          subst hv2
          obtain ⟨hwf, har⟩ := hI.at' hil2
          have hst0 : stepI p (l2.getD i default).s (k : Int) = Ex.step p (l2.getD i default).s k := by unfold stepI; rw [if_pos (by omega)]; rfl
          have hwf1 := stepI_wf (k := (k : Int)) hp hwf
          have hcall : ∀ w', Below wr.heap.size wr w' → Calls Try.prog 44 #[.agg (stA (l2.getD i default).s.c (l2.getD i default).s.bad), .agg #[sw, .slice at0 p.threads.length ct], .int .i64 k] w' fun e w'' => e = .returned (.tuple #[.agg (stA ((stepI p (l2.getD i default).s k).getD (l2.getD i default).s).c ((stepI p (l2.getD i default).s k).getD (l2.getD i default).s).bad), .bool (stepI p (l2.getD i default).s k).isSome]) ∧ Below w'.heap.size w' w'' :=
            fun w' hb => step_walk _ _ _ _ p w' (hR.has.below hb) hp hwf
          have hs1 := stA_size hwf1.len ((stepI p (l2.getD i default).s k).getD (l2.getD i default).s).bad
          have hone := stA_one ((stepI p (l2.getD i default).s k).getD (l2.getD i default).s).c ((stepI p (l2.getD i default).s k).getD (l2.getD i default).s).bad
          have hrng : ∀ w', Below wr.heap.size wr w' → w'.rangeAt b2 (i * 31) (stA (l2.getD i default).s.c (l2.getD i default).s.bad).toList := fun w' hb j v hj => (cell_keep hb (hrg2 j v hj))
          have hia : (Try.prog.info? 70).map (·.size) = some (stA (l2.getD i default).s.c (l2.getD i default).s.bad).toList.length := by rw [Array.length_toList, stA_size hwf.len]; exact info_state
          have hq : ∀ w', Below wr.heap.size wr w' → w'.cell? ⟨N, 0, none⟩ = some sw ∧ w'.cell? ⟨N, 1, none⟩ = some (.slice at0 p.threads.length ct) := fun w' hb => ⟨cell_keep hb hR.cell0, cell_keep hb hR.cell1⟩
          generalize stepI p (l2.getD i default).s (k : Int) = so at hst0 hwf1 hcall hs1 hone
          generalize hA : stA (l2.getD i default).s.c (l2.getD i default).s.bad = A0 at hcall hrng hia
          clear hA
          generalize hA1 : stA (so.getD (l2.getD i default).s).c (so.getD (l2.getD i default).s).bad = A1 at hcall hs1 hone
          have HA1 := Lib.hid hA1
          have HCALL := Lib.hid hcall
          have HS1 := Lib.hid hs1
          have HONE := Lib.hid hone
          have HRNG := Lib.hid hrng
          have HIA := Lib.hid hia
          have HQ := Lib.hid hq
          have HST := Lib.hid hst0
          have HWF1 := Lib.hid hwf1
          have HWF := Lib.hid hwf
          have HAR := Lib.hid har
          have HI := Lib.hid hI
          have HIN := Lib.hid hIn
          have HR := Lib.hid hR
          have HO := Lib.hid hO
          have HM := Lib.hid hM
          clear hA1 hcall hs1 hone hrng hia hq hst0 hwf1 hwf har hI hIn hR hO hM hrg2
          have hil2i : (i : Int) < (l2.length : Int) := by omega
          go_upto_region 9 with fail
          go_cut [8, 9, 31] from 31 to 68 (fun s8 s9 s31 wx => s31 = .int .i64 k ∧ ∃ M', s8 = .pointer (some ⟨M', 0, none⟩) ∧ s9 = .bool so.isSome ∧ Below wr.heap.size wr wx ∧ wr.heap.size ≤ M' ∧ wx.heap[M']? = some (.cells A1 70 (0, 0)))
          case first =>
           refine wp_region_noPanic ?_
           refine wp_region_held_drew (S := fun w' => Below wr.heap.size wr w') (by kernel_rfl) ?_ (fun hHeld => ?_)
           · exact (Below.refl _ _).drew
           refine wpAnyH_take (i := 0) (oi := { dst := some 35, op := _, type := _, pos := _, after := _, guard := none }) (v := ?_) rfl (by kernel_rfl) (by kernel_rfl) (by kernel_rfl) (fun _ _ _ h => h) (Or.inl ⟨by rfl, ?_⟩) (by assumption) ?_
           rotate_left
           · (intro w hSw; (try dsimp only at hSw); go_simp; try with_reducible rfl)
           simp only [Act.put, List.setIfInBounds_toArray, List.set_cons_zero, List.set_cons_succ]
           refine wpAnyH_take (i := 1) (oi := { dst := some 36, op := _, type := _, pos := _, after := _, guard := none }) (v := ?_) rfl (by kernel_rfl) (by kernel_rfl) (by kernel_rfl) (fun _ _ _ h => h) (Or.inl ⟨by rfl, ?_⟩) (by assumption) ?_
           rotate_left
           · (intro w hSw; (try dsimp only at hSw); go_simp; try with_reducible rfl)
           simp only [Act.put, List.setIfInBounds_toArray, List.set_cons_zero, List.set_cons_succ]
           refine wpAnyH_take (i := 2) (oi := { dst := some 37, op := _, type := _, pos := _, after := _, guard := none }) (v := ?_) rfl (by kernel_rfl) (by kernel_rfl) (by kernel_rfl) (fun _ _ _ h => h) (Or.inl ⟨by rfl, ?_⟩) (by assumption) ?_
           rotate_left
           · (intro w hSw; (try dsimp only at hSw); go_simp; try with_reducible rfl)
           simp only [Act.put, List.setIfInBounds_toArray, List.set_cons_zero, List.set_cons_succ]
           refine wpAnyH_take (i := 3) (oi := { dst := some 38, op := _, type := _, pos := _, after := _, guard := none }) (v := ?_) rfl (by kernel_rfl) (by kernel_rfl) (by kernel_rfl) (fun _ _ _ h => h) (Or.inl ⟨by rfl, ?_⟩) (by assumption) ?_
           rotate_left
           · (intro w hSw; (try dsimp only at hSw); go_simp; try with_reducible rfl)
           simp only [Act.put, List.setIfInBounds_toArray, List.set_cons_zero, List.set_cons_succ]
           refine wpAnyH_take (i := 4) (oi := { dst := some 39, op := _, type := _, pos := _, after := _, guard := none }) (v := .agg A0.toList.toArray) rfl (by kernel_rfl) (by kernel_rfl) (by kernel_rfl) (fun _ _ _ h => h) (yieldsIf_load_mid (by rfl) _ _ rfl b2 (i * 31) rfl A0.toList _ (fun w hw => HRNG.out w hw) Try.underlying70 rfl HIA.out) (by assumption) ?_
           simp only [Act.put, List.setIfInBounds_toArray, List.set_cons_zero, List.set_cons_succ]
           refine wpAnyH_take (i := 5) (oi := { dst := some 40, op := _, type := _, pos := _, after := _, guard := none }) (v := ?_) rfl (by kernel_rfl) (by kernel_rfl) (by kernel_rfl) (fun _ _ _ h => h) (Or.inl ⟨by rfl, ?_⟩) (by assumption) ?_
           rotate_left
           · (intro w hSw; obtain ⟨q0, q1⟩ := HQ.out w hSw; clear hSw; go_simp; try with_reducible rfl)
           simp only [Act.put, List.setIfInBounds_toArray, List.set_cons_zero, List.set_cons_succ]
           refine wpAnyH_take (i := 6) (oi := { dst := some 41, op := _, type := _, pos := _, after := _, guard := none }) (v := ?_) rfl (by kernel_rfl) (by kernel_rfl) (by kernel_rfl) (fun _ _ _ h => h) (Or.inl ⟨by rfl, ?_⟩) (by assumption) ?_
           rotate_left
           · (intro w hSw; (try dsimp only at hSw); go_simp; try with_reducible rfl)
           simp only [Act.put, List.setIfInBounds_toArray, List.set_cons_zero, List.set_cons_succ]
           refine wpAnyH_ready (rs := [7, 11]) (by kernel_rfl) (by simp) ?_
           refine AllReadyH.cons (o := { dst := some 42, op := _, type := _, pos := _, after := _, guard := none }) rfl (fun K hK => ?_) ?_
           rotate_left
           · 
             refine AllReadyH.cons (o := { dst := some 8, op := _, type := _, pos := _, after := _, guard := none }) rfl (fun K hK => ?_) ?_
             rotate_left
             · exact AllReadyH.nil
             go_simp
             refine hK.out _ _ ?_ (fun hHeld' => ?_)
             · exact hHeld.alloc hHeld.size _
             clear hHeld hK K
             have hHeld := hHeld'
             clear hHeld'
             try simp only [Act.put, List.setIfInBounds_toArray, List.set_cons_zero, List.set_cons_succ]
             refine wpAnyH_ready (rs := [7]) (by kernel_rfl) (by simp) ?_
             refine AllReadyH.cons (o := { dst := some 42, op := _, type := _, pos := _, after := _, guard := none }) rfl (fun K hK => ?_) ?_
             rotate_left
             · exact AllReadyH.nil
             go_simp
             refine (HCALL.out _ hHeld).mono ?_
             rintro e w7 ⟨rfl, hbw7⟩
             go_wp2_with fail
             refine hK.out _ _ ?_ (fun hHeld' => ?_)
             · exact hHeld.trans (hbw7.mono hHeld.size)
             clear hHeld hK K
             have hHeld := hHeld'
             clear hHeld'
             try simp only [Act.put, List.setIfInBounds_toArray, List.set_cons_zero, List.set_cons_succ]
             refine wpAnyH_take (i := 8) (oi := { dst := some 34, op := _, type := _, pos := _, after := _, guard := none }) (v := ?_) rfl (by kernel_rfl) (by kernel_rfl) (by kernel_rfl) (fun _ _ _ h => h) (Or.inl ⟨by rfl, ?_⟩) (by assumption) ?_
             rotate_left
             · (intro w hSw; (try dsimp only at hSw); go_simp; try with_reducible rfl)
             simp only [Act.put, List.setIfInBounds_toArray, List.set_cons_zero, List.set_cons_succ]
             refine wpAnyH_take (i := 9) (oi := { dst := some 43, op := _, type := _, pos := _, after := _, guard := none }) (v := ?_) rfl (by kernel_rfl) (by kernel_rfl) (by kernel_rfl) (fun _ _ _ h => h) (Or.inl ⟨by rfl, ?_⟩) (by assumption) ?_
             rotate_left
             · (intro w hSw; (try dsimp only at hSw); go_simp; try with_reducible rfl)
             simp only [Act.put, List.setIfInBounds_toArray, List.set_cons_zero, List.set_cons_succ]
             refine wpAnyH_take (i := 10) (oi := { dst := some 44, op := _, type := _, pos := _, after := _, guard := none }) (v := ?_) rfl (by kernel_rfl) (by kernel_rfl) (by kernel_rfl) (fun _ _ _ h => h) (Or.inl ⟨by rfl, ?_⟩) (by assumption) ?_
             rotate_left
             · (intro w hSw; (try dsimp only at hSw); go_simp; try with_reducible rfl)
             simp only [Act.put, List.setIfInBounds_toArray, List.set_cons_zero, List.set_cons_succ]
             have HGE : wr.heap.size ≤ wr.drew.heap.size := Nat.le_refl _
             refine wpAnyH_ready (rs := [12]) (by kernel_rfl) (by simp) ?_
             refine AllReadyH.cons (o := { dst := none, op := _, type := _, pos := _, after := _, guard := none }) rfl (fun K hK => ?_) ?_
             rotate_left
             · exact AllReadyH.nil
             rw [if_pos (by rfl)]
             refine wp_store_row 70 (.tmp 8) (.tmp 43) rfl wr.heap.size A1 rfl rfl 70 _ ((hbw7.block _ (by simp)).trans (heap_alloc_new _ _)) (by rw [HS1.out]; exact info_state) (by rw [HS1.out]; rfl) HONE.out ?_
             refine hK.out _ _ ?_ (fun hHeld'' => ?_)
             · exact below_setRow hHeld _ HGE
             clear hK K
             simp only [Act.put]
             refine wpAnyH_take (i := 13) (oi := { dst := some 9, op := _, type := _, pos := _, after := _, guard := none }) (v := ?_) rfl (by kernel_rfl) (by kernel_rfl) (by kernel_rfl) (fun _ _ _ h => h) (Or.inl ⟨by rfl, ?_⟩) (by assumption) ?_
             rotate_left
             · (intro w hSw; (try dsimp only at hSw); go_simp; try with_reducible rfl)
             simp only [Act.put, List.setIfInBounds_toArray, List.set_cons_zero, List.set_cons_succ]
             refine wpAnyH_done (by kernel_rfl) ?_ _
             refine NoPanic.normal ?_
             go_wp2_with fail
             go_meet
             exact ⟨rfl, _, rfl, rfl, hHeld'', HGE, heap_setRow ((hbw7.block _ (by simp)).trans (heap_alloc_new _ _))⟩
           go_simp
           refine (HCALL.out _ hHeld).mono ?_
           rintro e w7 ⟨rfl, hbw7⟩
           go_wp2_with fail
           refine hK.out _ _ ?_ (fun hHeld' => ?_)
           · exact hHeld.trans (hbw7.mono hHeld.size)
           clear hHeld hK K
           have hHeld := hHeld'
           clear hHeld'
           try simp only [Act.put, List.setIfInBounds_toArray, List.set_cons_zero, List.set_cons_succ]
           refine wpAnyH_take (i := 8) (oi := { dst := some 34, op := _, type := _, pos := _, after := _, guard := none }) (v := ?_) rfl (by kernel_rfl) (by kernel_rfl) (by kernel_rfl) (fun _ _ _ h => h) (Or.inl ⟨by rfl, ?_⟩) (by assumption) ?_
           rotate_left
           · (intro w hSw; (try dsimp only at hSw); go_simp; try with_reducible rfl)
           simp only [Act.put, List.setIfInBounds_toArray, List.set_cons_zero, List.set_cons_succ]
           refine wpAnyH_take (i := 9) (oi := { dst := some 43, op := _, type := _, pos := _, after := _, guard := none }) (v := ?_) rfl (by kernel_rfl) (by kernel_rfl) (by kernel_rfl) (fun _ _ _ h => h) (Or.inl ⟨by rfl, ?_⟩) (by assumption) ?_
           rotate_left
           · (intro w hSw; (try dsimp only at hSw); go_simp; try with_reducible rfl)
           simp only [Act.put, List.setIfInBounds_toArray, List.set_cons_zero, List.set_cons_succ]
           refine wpAnyH_take (i := 10) (oi := { dst := some 44, op := _, type := _, pos := _, after := _, guard := none }) (v := ?_) rfl (by kernel_rfl) (by kernel_rfl) (by kernel_rfl) (fun _ _ _ h => h) (Or.inl ⟨by rfl, ?_⟩) (by assumption) ?_
           rotate_left
           · (intro w hSw; (try dsimp only at hSw); go_simp; try with_reducible rfl)
           simp only [Act.put, List.setIfInBounds_toArray, List.set_cons_zero, List.set_cons_succ]
           refine wpAnyH_ready (rs := [11]) (by kernel_rfl) (by simp) ?_
           refine AllReadyH.cons (o := { dst := some 8, op := _, type := _, pos := _, after := _, guard := none }) rfl (fun K hK => ?_) ?_
           rotate_left
           · exact AllReadyH.nil
           go_simp
           refine hK.out _ _ ?_ (fun hHeld' => ?_)
           · exact hHeld.alloc hHeld.size _
           clear hHeld hK K
           have hHeld := hHeld'
           clear hHeld'
           try simp only [Act.put, List.setIfInBounds_toArray, List.set_cons_zero, List.set_cons_succ]
           have HGE : wr.heap.size ≤ w7.heap.size := hbw7.size
           refine wpAnyH_ready (rs := [12]) (by kernel_rfl) (by simp) ?_
           refine AllReadyH.cons (o := { dst := none, op := _, type := _, pos := _, after := _, guard := none }) rfl (fun K hK => ?_) ?_
           rotate_left
           · exact AllReadyH.nil
           rw [if_pos (by rfl)]
           refine wp_store_row 70 (.tmp 8) (.tmp 43) rfl w7.heap.size A1 rfl rfl 70 _ (heap_alloc_new _ _) (by rw [HS1.out]; exact info_state) (by rw [HS1.out]; rfl) HONE.out ?_
           refine hK.out _ _ ?_ (fun hHeld'' => ?_)
           · exact below_setRow hHeld _ HGE
           clear hK K
           simp only [Act.put]
           refine wpAnyH_take (i := 13) (oi := { dst := some 9, op := _, type := _, pos := _, after := _, guard := none }) (v := ?_) rfl (by kernel_rfl) (by kernel_rfl) (by kernel_rfl) (fun _ _ _ h => h) (Or.inl ⟨by rfl, ?_⟩) (by assumption) ?_
           rotate_left
           · (intro w hSw; (try dsimp only at hSw); go_simp; try with_reducible rfl)
           simp only [Act.put, List.setIfInBounds_toArray, List.set_cons_zero, List.set_cons_succ]
           refine wpAnyH_done (by kernel_rfl) ?_ _
           refine NoPanic.normal ?_
           go_wp2_with fail
           go_meet
           exact ⟨rfl, _, rfl, rfl, hHeld'', HGE, heap_setRow (heap_alloc_new _ _)⟩
          case rest =>
            obtain ⟨rfl, M', rfl, rfl, hbx, hM', hx5⟩ := hcut
            have hR6 := HR.out.more hbx
            have hO6 := OwnS.below HO.out hbx
            have hM6 := MapSt.kept HM.out (grown_below hbx) (by simp)
            have hMlt := MapSt.lt HM.out
            cases so with
            | none =>
              have hn1 := inRound_some HIN.out hk (one_stay HST.out.symm)
              have HR6 := Lib.hid hR6
              have HO6 := Lib.hid hO6
              have HM6 := Lib.hid hM6
              have HN1 := Lib.hid hn1
              clear hR6 hO6 hM6 hn1 hx5 hbx
              go_wp2
              go_roundw
              case rel => exact ⟨l2, k + 1, HI.out, HN1.out, hil2, by omega, by go_num, HR6.out, HO6.out, HM6.out, hne2⟩
              case measure => simp [intOf]; omega
            | some s =>
              have hlen : s.c.length = 28 := HWF1.out.len
              have harS : allR s.c := step_in hin HWF.out HAR.out HST.out.symm
              have hA1' : stA s.c s.bad = A1 := HA1.out
              obtain ⟨iv, hlook⟩ := hM6.look s hlen (fun j _ => harS j)
              rw [hA1'] at hlook
              by_cases hm : s ∈ l2.map (·.s)
              · rw [decide_eq_true hm] at hlook
                have hn1 := inRound_some HIN.out hk (one_old HST.out.symm hm)
                have HR6 := Lib.hid hR6
                have HO6 := Lib.hid hO6
                have HM6 := Lib.hid hM6
                have HN1 := Lib.hid hn1
                clear hR6 hO6 hM6 hn1 hbx hm hA1'
                go_wp2_with (refine wpList_load_row rfl 70 (.tmp 8) rfl M' rfl 70 A1 (0, 0) _ hx5 Try.underlying70 rfl (by rw [HS1.out]; exact info_state) ?_)
                go_roundw
                case rel => exact ⟨l2, k + 1, HI.out, HN1.out, hil2, by omega, by go_num, HR6.out, HO6.out, HM6.out, hne2⟩
                case measure => simp [intOf]; omega
              · rw [decide_eq_false hm] at hlook
                by_cases hl : l2.length = most
                · have hn1 := inRound_none HIN.out hk (one_many HST.out.symm hm hl)
                  have HR6 := Lib.hid hR6
                  have HN1 := Lib.hid hn1
                  have e1 : ((l2.length : Int) == 20000) = true := by rw [hl]; rfl
                  have e2 : decide ((l2.length : Int) = 20000) = true := by rw [hl]; rfl
                  clear hR6 hO6 hM6 hn1 hbx hm hA1' hl
                  go_wp2_with (refine wpList_load_row rfl 70 (.tmp 8) rfl M' rfl 70 A1 (0, 0) _ hx5 Try.underlying70 rfl (by rw [HS1.out]; exact info_state) ?_)
                  simp only [Exit.noGoto, Exit.inBlock, Exit.then]
                  go_wp2
                  go_returns
                  exact ⟨.slice none 0 0, by rw [HN.out]; exact HR6.out.below, .inr ⟨HN1.out, rfl⟩⟩
                · have hn1 := inRound_some HIN.out hk (one_new HST.out.symm hm hl)
                  have hpu := HI.out.push hp hin hil2 HST.out.symm hl (i : Int) (k : Int)
                  have hs2 : l2.length ≤ 20000 := HI.out.short
                  have hl' : l2.length < 20000 := by have : most = 20000 := rfl; omega
                  have e1 : ((l2.length : Int) == 20000) = false := by simp; omega
                  have e2 : decide ((l2.length : Int) = 20000) = false := by simp; omega
                  obtain ⟨w8, hrun, hM8, hg8⟩ := hM6.store s hlen (fun j _ => harS j) (l2.length : Int) ((inR_iff _).2 (by omega)) (by simp; omega)
                  rw [hA1'] at hrun
                  have hNM : N < M := by omega
                  have hne3 : b2 ≠ M := fun e => hne2 (by rw [e]; rfl)
                  have hR8 := hR6.grown H0.out HN.out hg8 (fun j hj => by cases hj; exact hNM)
                  have hO8 := OwnS.kept hO6 hg8 (.inr (by simpa [Value.ownBlock] using hne3))
                  have hx8 : w8.heap[M']? = some (.cells A1 70 (0, 0)) := (hg8.block M' (by rw [Array.getElem?_eq_some_iff] at hx5; exact hx5.1) (by simp; omega)).trans hx5
                  have hbt := built_met hlen s.bad (i : Int) (k : Int)
                  have hfl := fill_met hlen s.bad (i : Int) (k : Int)
                  have hms := metC_len (m := ⟨s, (i : Int), (k : Int)⟩) hlen
                  have hone2 := metC_one ⟨s, (i : Int), (k : Int)⟩
                  rw [hA1'] at hbt
                  have hfa := flatM_append l2 ⟨s, (i : Int), (k : Int)⟩
                  change Try.prog.built 72 _ = some (metC ⟨s, (i : Int), (k : Int)⟩).toArray at hbt
                  change Instr.fill _ _ [(0, .agg (metC ⟨s, (i : Int), (k : Int)⟩).toArray)] = some (metC ⟨s, (i : Int), (k : Int)⟩).toArray at hfl
                  generalize hC2 : metC ⟨s, (i : Int), (k : Int)⟩ = C2 at hbt hfl hms hone2 hfa
                  clear hC2
                  have HBT2 := Lib.hid hbt
                  have HFL2 := Lib.hid hfl
                  have HMS2 := Lib.hid hms
                  have HONE2 := Lib.hid hone2
                  have HFA := Lib.hid hfa
                  have HO8 := Lib.hid hO8
                  have HR8 := Lib.hid hR8
                  have HM8 := Lib.hid hM8
                  have HN1 := Lib.hid hn1
                  have HPU := Lib.hid hpu
                  have HA2 := Lib.hid hA1'
                  have hM8l := hM8.lt
                  have hb2l : b2 < w8.heap.size := (hO8.blk b2 rfl).2
                  have n1 : l2.length + 1 ≤ maxLen := by unfold maxLen; omega
                  have n2 : (l2.length + 1) * 248 ≤ 140737488355328 := by omega
                  have n3 : N + 1 ≤ (w8.alloc (.cells C2.toArray 72 (0, 0))).heap.size := by simp; omega
                  have N1 := Lib.hid n1
                  have N2 := Lib.hid n2
                  have N3 := Lib.hid n3
                  have hown := OwnS.alloc hO8 (.cells C2.toArray 72 (0, 0))
                  have HOWN := Lib.hid hown
                  have hcell : ∀ j u, C2[j]? = some u → (w8.alloc (.cells C2.toArray 72 (0, 0))).cell? ((⟨w8.heap.size, 0, none⟩ : Addr).add j) = some u := fun j u hj => by
                    rw [Addr.add_lit]
                    simp only [World.cell?, heap_alloc_new, Nat.zero_add]
                    simpa using hj
                  have HCELL := Lib.hid hcell
                  clear hR6 hO6 hM6 hn1 hbx hm hA1' hl hpu hbt hfl hms hone2 hfa hO8 hR8 hM8 hg8 n1 n2 n3 hown hcell hlen harS
                  go_wp2_with (first
                    | refine wpList_load_row rfl 70 (.tmp 8) rfl M' rfl 70 A1 (0, 0) _ hx5 Try.underlying70 rfl (by rw [HS1.out]; exact info_state) ?_
                    | refine wpList_load_row rfl 70 (.tmp 8) rfl M' rfl 70 A1 (0, 0) _ hx8 Try.underlying70 rfl (by rw [HS1.out]; exact info_state) ?_
                    | (refine wpList_buildTo (o := ⟨some 65, _, _, _, _, _⟩) rfl 72 #[(0, .tmp 62), (1, .tmp 63), (2, .tmp 64)] rfl (some 65) rfl C2.toArray (by simp only [List.map_toArray, List.map_cons, List.map_nil]; exact HBT2.out) ?_; refine wpList_buildSlice rfl 62 72 1 #[(0, .tmp 65)] rfl C2.toArray Try.t72 (Try.t72.zero.getD undef) Try.underlying62 HIM.out rfl (by decide) (by decide) (by simp only [List.map_toArray, List.map_cons, List.map_nil]; exact HFL2.out) ?_)
                    | (at_builtin; refine wpList_append_ownS _ rfl (.tmp 61) (.tmp 66) 62 rfl (N + 1) 72 Try.t72 (Try.t72.zero.getD undef) 31 248 Try.underlying62 HIM.out rfl rfl rfl rfl (by decide) (.slice (some ⟨b2, 0, none⟩) l2.length cap2) l2.length (flatM l2) rfl HOWN.out ⟨w8.heap.size, 0, none⟩ 1 1 C2 rfl (by rw [HMS2.out]) HCELL.out HONE2.out N1.out N2.out N3.out ?_; intro v9 w9 hv9 hg9 hob9))
                  go_roundw
                  case rel =>
                    have hal : Below w8.heap.size w8 (w8.alloc (.cells C2.toArray 72 (0, 0))) := (Below.refl _ _).alloc (Nat.le_refl _) _
                    have hR9 := (HR8.out.more hal).grown H0.out HN.out hg9 (fun j hj => by cases hj; exact hNb2)
                    have hM9 := ((MapSt.kept HM8.out (grown_below hal) (by simp)).kept hg9 (by simp [Value.ownBlock]; omega))
                    refine ⟨l2 ++ [⟨s, (i : Int), (k : Int)⟩], k + 1, HPU.out, HN1.out, by simp; omega, by omega, by go_num, hR9, ?_, ?_, ?_⟩
                    · rw [HFA.out, List.length_append]; exact hv9
                    · rw [List.map_append]; exact hM9
                    · rcases hob9 with h | h | ⟨j, h, hj⟩
                      · rw [h]; exact hne2
                      · rw [h]; simp
                      · rw [h]; simp at hj ⊢; omega
                  case measure => simp [intOf]; omega
--ROUND]
        · obtain rfl : k = p.threads.length := by omega
          have hA2 := inRound_out hIn
          have hs2 : l2.length ≤ 20000 := hI.short
          have HI := Lib.hid hI
          have HA2 := Lib.hid hA2
          clear hI hIn hA2
          go_wp2
          simp only [Exit.noGoto, Exit.inBlock, Exit.then]
          go_wp2
          go_roundw
          case rel => exact ⟨l2, i + 1, HI.out, HA2.out, by omega, by go_num, hR, hO, hM, hne2⟩
          case measure => simp [intOf]; omega
    · obtain rfl : i = l.length := by omega
      have hg := atRound_done hA hsh
      obtain ⟨b, cap, hv, hNb, hbl, _⟩ := mets_at hO hwl h0
      subst hv
      have HG := Lib.hid hg
      have HI := Lib.hid hI
      clear hg hI hA
      go_wp2
      go_returns
      exact ⟨_, by rw [HN.out]; exact hR.below, .inl ⟨l, HG.out, HI.out, rfl, ownS_base hO (by rw [HN.out]; omega)⟩⟩
end Go.Proofs.Ytmpgjnindbklaaa
