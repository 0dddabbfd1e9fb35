import Derived.Test.YtmpgjnindbklaaaETold
import Derived.Test.YtmpgjnindbklaaaEGoes
import Derived.Test.YtmpgjnindbklaaaERow2
import Derived.Test.YtmpgjnindbklaaaESort
import Derived.Handy
import Derived.Deep.CutRange
import Derived.Deep.RegionLaw
namespace Go.Proofs.Ytmpgjnindbklaaa
open Go.RowKit BA Ex

theorem found_one (a b : Int) (c : Bool) (v : Value) (hv : v.oneCell' = true) : (#[.int .i64 a, .int .i64 b, .bool c, v] : Array Value).all (·.oneCell') = true := by
  rw [Array.all_eq_true_iff_forall_mem]
  intro x hx
  simp only [List.mem_toArray, List.mem_cons, List.not_mem_nil, or_false] at hx
  rcases hx with rfl | rfl | rfl | rfl
  · rfl
  · rfl
  · rfl
  · exact hv
theorem metC_bad {m : Ex.Met} (h : m.s.c.length = 28) : (metC m)[28]? = some (.bool m.s.bad) := by
  unfold metC
  rw [List.getElem?_append_left (by simp [stA, ints, h])]
  simp [stA, ints, h]
theorem reads_cell1 (w : World) (u : Value) (t : TypeId) : Reads (w.alloc (.cells #[u] t (0, 0))) (.slice (some ⟨w.heap.size, 0, none⟩) 1 1) [u] :=
  .inr ⟨by simp, w.heap.size, 0, 1, rfl, by simp, by decide, fun i x hx => by have := cell_new0 w u t i x hx; rw [Addr.add_lit] at this; exact this⟩
theorem any_shape1 {w : World} {base n : Nat} {v : Value} {xs : List Value} (h : OwnS w base 1 v n xs) : ∃ a m c, v = .slice a m c := let ⟨a, c, hv⟩ := h.reads.shape; ⟨a, _, c, hv⟩
theorem info_found : (Try.prog.info? 30).map (·.size) = some 4 := by kernel_rfl
theorem info_met : (Try.prog.info? 72).map (·.size) = some 31 := by kernel_rfl

set_option maxRecDepth 100000 in
set_option maxHeartbeats 4000000 in
theorem explore_walk (sw st : Value) (p : Lt) (w : World) (h : PHas w sw st p) (hin : PIn p) :
    Calls Try.prog 11 #[.agg #[sw, st]] w fun e w' => ∃ v, Below w.heap.size w w' ∧
      e = .returned (.tuple #[.agg #[.int .i64 (exploreF p).1.states, .int .i64 (exploreF p).1.ends, .bool (exploreF p).1.bad, v], .int .i64 (exploreF p).2]) ∧ OwnS w' w.heap.size 1 v (exploreF p).1.turns.length (ints (exploreF p).1.turns) := by
  have hR := (RChk.begin h)
  have hB := (Below.refl (w.alloc (.cells #[sw, st] 25 (0, 0))).heap.size (w.alloc (.cells #[sw, st] 25 (0, 0)))).alloc (Nat.le_refl _) (.cells #[.int .i64 0, .int .i64 0, .bool false, .slice none 0 0] 30 (0, 0))
  have hR1 := hR.more hB
  have hres : ((w.alloc (.cells #[sw, st] 25 (0, 0))).alloc (.cells #[.int .i64 0, .int .i64 0, .bool false, .slice none 0 0] 30 (0, 0))).heap[w.heap.size + 1]? = some (.cells #[.int .i64 0, .int .i64 0, .bool false, .slice none 0 0] 30 (0, 0)) := by
    simpa using heap_alloc_new (w.alloc (.cells #[sw, st] 25 (0, 0))) (.cells #[.int .i64 0, .int .i64 0, .bool false, .slice none 0 0] 30 (0, 0))
  clear hR hB
  have H0 := Lib.hid h
  clear h
  have hi3 : Try.prog.info? 3 = some Try.t3 := by kernel_rfl
  have HI3 := Lib.hid hi3
  clear hi3
  go_enter Try.func11, Try.ntmps11
  go_upto_region 1 with fail
  generalize hW : (w.alloc (.cells #[sw, st] 25 (0, 0))).alloc (.cells #[.int .i64 0, .int .i64 0, .bool false, .slice none 0 0] 30 (0, 0)) = w1 at hR1 hres ⊢
  clear hW
  generalize hN : w.heap.size = N at hR1 hres ⊢
  have HN := Lib.hid hN
  clear hN
  have q0 := hR1.cell0
  have q1 := hR1.cell1
  go_wp2_with fail
  refine (check_walk _ _ p w1 hR1.has).mono ?_
  rintro e w2 ⟨rfl, hb2⟩
  have hR2 := hR1.more hb2
  have hN1 : N + 1 < w1.heap.size := by rw [Array.getElem?_eq_some_iff] at hres; exact hres.1
  have hres2 := (hb2.block _ hN1).trans hres
  have q0 := hR2.cell0
  have q1 := hR2.cell1
  clear hR1 hres hb2 hN1
  unfold chkE
  by_cases hp : check p = true
  · rw [if_pos hp]
    obtain ⟨⟨_, h8, _, h4⟩, _⟩ := check_facts hp
    go_wp2_with fail
    refine (goes_walk _ _ p w2 hR2.has hp hin).mono ?_
    rintro e w3 ⟨lv, hb3, hcase⟩
    have hR3 := hR2.more hb3
    have hN2 : N + 1 < w2.heap.size := by rw [Array.getElem?_eq_some_iff] at hres2; exact hres2.1
    have hres3 := (hb3.block _ hN2).trans hres2
    have HB3 := Lib.hid hb3
    clear hR2 hres2 hb3 q0 q1
    have q0 := hR3.cell0
    have q1 := hR3.cell1
    rcases hcase with ⟨l, hg, hI, rfl, hO3⟩ | ⟨hg, rfl⟩
    · have hlk := goes_lnk hg
      have he : exploreF p = (told p l, 0) := by unfold exploreF; rw [if_pos hp, hg]
      rw [told_is hlk] at he
      have HE := Lib.hid he
      have HLK := Lib.hid hlk
      have HI := Lib.hid hI
      have hsh : l.length ≤ 20000 := hI.short
      clear he hg hlk hI
      have hw3 : w2.heap.size ≤ w3.heap.size := HB3.out.size
      obtain ⟨b, cap, hv, hNb, hbl, _⟩ := mets_at hO3 (fun m hm => (HI.out.wf m hm).1.len) HI.out.some'
      subst hv
      have hR4 : RExp w (w3.alloc (.cells #[.int .i64 l.length, .int .i64 0, .bool false, .slice none 0 0] 30 (0, 0))) N w3.heap.size sw st (.slice (some ⟨b, 0, none⟩) l.length cap) (.slice none 0 0) p l (ends p l 0) (anyBad l 0) (trail l 0) := by
        have hal : Below w3.heap.size w3 (w3.alloc (.cells #[.int .i64 l.length, .int .i64 0, .bool false, .slice none 0 0] 30 (0, 0))) := (Below.refl _ _).alloc (Nat.le_refl _) _
        refine ⟨hR3.more hal, by omega, (hal.block _ (by omega)).trans hres3, heap_alloc_new _ _, OwnS.nil _ _ _, ownS_base (OwnS.alloc hO3 _) (by omega), fun k hk => by cases hk; exact hbl⟩
      have HR4 := Lib.hid hR4
      have hF : N + 1 < w3.heap.size := by omega
      have HR3 := Lib.hid hR3
      have HRES := Lib.hid hres3
      clear hR3 hres3 hO3 hR4
      go_upto_region 8 with fail
      generalize w3.alloc (.cells #[.int .i64 l.length, .int .i64 0, .bool false, .slice none 0 0] 30) = w4 at HR4 ⊢
      generalize w3.heap.size = F at HR4 hF ⊢
      clear HR3 HRES hbl hw3 HB3 q0 q1
      go_wp2_with fail
      go_loopw [31] (fun iv wr => ∃ (i : Nat) (tv : Value), i ≤ l.length ∧ iv = .int .i64 i ∧ RExp w wr N F sw st (.slice (some ⟨b, 0, none⟩) l.length cap) tv p l (ends p l i) (anyBad l i) (trail l i)) (fun iv _ => l.length - (intOf iv).toNat)
      case atStart => exact ⟨0, _, by omega, rfl, HR4.out⟩
      case round =>
        clear HR4
        obtain ⟨i, tv, hil, rfl, hR⟩ := hrel
        by_cases hlt : i < l.length
        · have hrow := mets_row hR.mets (fun m hm => (HI.out.wf m hm).1.len) hlt
          have hlen : (l.getD i default).s.c.length = 28 := (HI.out.at' hlt).1.len
          have hCl := metC_len hlen
          have hC1 := metC_one (l.getD i default)
          have he1 := ends_next (p := p) hlt
          have ha1 := anyBad_next hlt
          have ht1 := trail_stay hlt
          have ht2 := trail_new hlt
          have hCA : ∀ j u, (stA (l.getD i default).s.c (l.getD i default).s.bad).toList[j]? = some u → (metC (l.getD i default))[j]? = some u := fun j u hj => by
            unfold metC
            rw [List.getElem?_append_left (List.getElem?_eq_some_iff.1 hj).1]; exact hj
          have hCB : (metC (l.getD i default))[28]? = some (.bool (l.getD i default).s.bad) := metC_bad hlen
          have hia : (Try.prog.info? 70).map (·.size) = some (stA (l.getD i default).s.c (l.getD i default).s.bad).toList.length := by rw [Array.length_toList, stA_size hlen]; exact info_state
          generalize l.getD i default = m at hrow hlen hCl hC1 he1 ha1 ht1 ht2 hCA hCB hia
          have hov := fun wx (hh : PHas wx sw st p) => over_walk sw st m.s.c m.s.bad p wx hh hlen h4
          generalize metC m = C at hrow hCl hC1 hCA hCB
          generalize stA m.s.c m.s.bad = A at hCA hia hov
          have hmm : over p ⟨m.s.c, m.s.bad⟩ = over p m.s := rfl
          rw [hmm] at hov
          generalize over p m.s = ov at he1 hov
          generalize m.s.bad = bd at ha1 ht1 ht2 hCB
          have hic : (Try.prog.info? 72).map (·.size) = some C.length := by rw [hCl]; exact info_met
          have hCA1 : C.toArray.all (·.oneCell') = true := by rw [Array.all_eq_true_iff_forall_mem]; intro x hx; exact hC1 x (by simpa using hx)
          have HROW := Lib.hid hrow
          have HCL := Lib.hid hCl
          have HE1 := Lib.hid he1
          have HA1 := Lib.hid ha1
          have HT1 := Lib.hid ht1
          have HT2 := Lib.hid ht2
          have HCA := Lib.hid hCA
          have HCB := Lib.hid hCB
          have HIA := Lib.hid hia
          have HIC := Lib.hid hic
          have HOV := Lib.hid hov
          have HCA1 := Lib.hid hCA1
          have HR := Lib.hid hR
          have hili : (i : Int) < (l.length : Int) := by omega
          clear hrow hlen hCl hC1 he1 ha1 ht1 ht2 hCA hCB hia hic hov hCA1 hR hmm
          go_upto_region 11 with (first
            | refine wpList_load_mid rfl 72 (.tmp 34) rfl b (i * 31) rfl C _ HROW.out Try.underlying72 rfl HIC.out ?_
            | refine wpList_store_row rfl 72 (.tmp 9) (.tmp 35) rfl wr.heap.size C.toArray rfl rfl 72 _ (heap_alloc_new _ _) HIC.out HCL.out.symm HCA1.out ?_)
          have hb5 : Below wr.heap.size wr ((wr.alloc (.cells #[Value.int .i64 0, Value.int .i64 0, Value.int .i64 0, Value.int .i64 0, Value.int .i64 0, Value.int .i64 0, Value.int .i64 0, Value.int .i64 0, Value.int .i64 0, Value.int .i64 0, Value.int .i64 0, Value.int .i64 0, Value.int .i64 0, Value.int .i64 0, Value.int .i64 0, Value.int .i64 0, Value.int .i64 0, Value.int .i64 0, Value.int .i64 0, Value.int .i64 0, Value.int .i64 0, Value.int .i64 0, Value.int .i64 0, Value.int .i64 0, Value.int .i64 0, Value.int .i64 0, Value.int .i64 0, Value.int .i64 0, Value.bool false, Value.int .i64 0, Value.int .i64 0] 72 (0, 0))).setRow wr.heap.size C.toArray) := below_setRow ((Below.refl _ _).alloc (Nat.le_refl _) _) _ (Nat.le_refl _)
          have hx5 : ((wr.alloc (.cells #[Value.int .i64 0, Value.int .i64 0, Value.int .i64 0, Value.int .i64 0, Value.int .i64 0, Value.int .i64 0, Value.int .i64 0, Value.int .i64 0, Value.int .i64 0, Value.int .i64 0, Value.int .i64 0, Value.int .i64 0, Value.int .i64 0, Value.int .i64 0, Value.int .i64 0, Value.int .i64 0, Value.int .i64 0, Value.int .i64 0, Value.int .i64 0, Value.int .i64 0, Value.int .i64 0, Value.int .i64 0, Value.int .i64 0, Value.int .i64 0, Value.int .i64 0, Value.int .i64 0, Value.int .i64 0, Value.int .i64 0, Value.bool false, Value.int .i64 0, Value.int .i64 0] 72 (0, 0))).setRow wr.heap.size C.toArray).heap[wr.heap.size]? = some (.cells C.toArray 72 (0, 0)) := heap_setRow (heap_alloc_new _ _)
          have hR5 := HR.out.more hb5
          have hFM := HR.out.ltw
          generalize (wr.alloc (.cells #[Value.int .i64 0, Value.int .i64 0, Value.int .i64 0, Value.int .i64 0, Value.int .i64 0, Value.int .i64 0, Value.int .i64 0, Value.int .i64 0, Value.int .i64 0, Value.int .i64 0, Value.int .i64 0, Value.int .i64 0, Value.int .i64 0, Value.int .i64 0, Value.int .i64 0, Value.int .i64 0, Value.int .i64 0, Value.int .i64 0, Value.int .i64 0, Value.int .i64 0, Value.int .i64 0, Value.int .i64 0, Value.int .i64 0, Value.int .i64 0, Value.int .i64 0, Value.int .i64 0, Value.int .i64 0, Value.int .i64 0, Value.bool false, Value.int .i64 0, Value.int .i64 0] 72)).setRow wr.heap.size C.toArray = w5 at hR5 hx5 ⊢
          generalize wr.heap.size = M at hx5 hFM ⊢
          clear hb5 HR HROW
          have hrg5 : w5.rangeAt M 0 A.toList := fun j u hj => by
            have := HCA.out j u hj
            simp only [World.cell?, hx5, Nat.zero_add]
            simpa using this
          have q0 := hR5.chk.cell0
          have q1 := hR5.chk.cell1
          have HR5 := Lib.hid hR5
          have HX5 := Lib.hid hx5
          have HRG5 := Lib.hid hrg5
          clear hR5 hx5 hrg5
          go_upto_if 39 with (first
            | refine wpList_load_mid rfl 70 (.tmp 36) rfl M 0 rfl A.toList _ HRG5.out Try.underlying70 rfl HIA.out ?_
            | (go_at_call 30; refine (HOV.out _ HR5.out.chk.has).mono ?_; rintro e w6 ⟨rfl, hb6⟩))
          have hR6 := HR5.out.more hb6
          have hM5 : M < w5.heap.size := by have := HX5.out; rw [Array.getElem?_eq_some_iff] at this; exact this.1
          have hx6 := (hb6.block M hM5).trans HX5.out
          have hle := ends_le p l i
          have hc1 := hR6.c1
          have hf1 := hR6.free 1
          generalize hE : ends p l i = en at hR6 hle hc1
          have HEN := Lib.hid hE
          have HR6 := Lib.hid hR6
          have HX6 := Lib.hid hx6
          have hwr : IntKind.i64.wrap ((en : Int) + 1) = (en : Int) + 1 := by rw [wrap_w64]; unfold w64 RowKit.wrap64; omega
          clear hE hR6 hx6 hb6 HR5 HX5 HRG5 q0 q1 hM5
          go_cut [31] from 31 to 78 (fun s31 wx => s31 = .int .i64 i ∧ RExp w wx N F sw st (.slice (some ⟨b, 0, none⟩) l.length cap) tv p l (ends p l (i + 1)) (anyBad l i) (trail l i) ∧ wx.heap[M]? = some (.cells C.toArray 72 (0, 0)))
          case first =>
            cases ov with
            | false =>
              go_wp2
              go_meet
              exact ⟨rfl, by rw [HE1.out, HEN.out]; exact HR6.out, HX6.out⟩
            | true =>
              go_wp2
              go_meet
              refine ⟨rfl, ?_, ?_⟩
              · rw [HE1.out, HEN.out]
                refine HR6.out.put H0.out HN.out (grown_set _ _ _ _) ?_
                rw [cells_set HR6.out.f]
                rfl
              · exact (Below.heap_setCell _ _ _ _ (by simp; omega)).trans HX6.out
          case rest =>
            obtain ⟨rfl, hR7, hx7⟩ := hcut
            have hc2 := hR7.c2
            have hb28 : wc.cell? ⟨M, 28, none⟩ = some (.bool bd) := by
              have := HCB.out
              simp only [World.cell?, hx7]
              simpa using this
            have HR7 := Lib.hid hR7
            clear hR7 hx7 hc1 hf1 hwr hle
            generalize hab : anyBad l i = ab at hc2
            have HAB := Lib.hid hab
            clear hab
            cases bd with
            | false =>
              have hlast : RExp w wc N F sw st (.slice (some ⟨b, 0, none⟩) l.length cap) tv p l (ends p l (i + 1)) (anyBad l (i + 1)) (trail l (i + 1)) := by
                rw [HA1.out, HT1.out (.inl rfl), Bool.or_false]; exact HR7.out
              have HL := Lib.hid hlast
              clear hlast
              go_wp2
              go_roundw
              case rel => exact ⟨i + 1, tv, by omega, by go_num, HL.out⟩
              case measure => simp [intOf]; omega
            | true =>
              cases ab with
              | true =>
                have hlast : RExp w wc N F sw st (.slice (some ⟨b, 0, none⟩) l.length cap) tv p l (ends p l (i + 1)) (anyBad l (i + 1)) (trail l (i + 1)) := by
                  rw [HA1.out, HT1.out (.inr HAB.out), Bool.or_true, ← HAB.out]; exact HR7.out
                have HL := Lib.hid hlast
                clear hlast
                go_wp2
                go_roundw
                case rel => exact ⟨i + 1, tv, by omega, by go_num, HL.out⟩
                case measure => simp [intOf]; omega
              | false =>
                have hf2 := HR7.out.free 2
                have hR8 : RExp w (wc.setCell ⟨F, 2, none⟩ (.bool true)) N F sw st (.slice (some ⟨b, 0, none⟩) l.length cap) tv p l (ends p l (i + 1)) true [] := by
                  have h7 := HR7.out
                  rw [trail_none HAB.out, HAB.out] at h7
                  refine h7.put H0.out HN.out (grown_set _ _ _ _) ?_
                  rw [cells_set h7.f]
                  rfl
                have HR8 := Lib.hid hR8
                clear hR8
                go_wp2_with fail
                have hbi := backs_len HLK.out i hlt
                clear hc2 hb28 hf2
                go_loopw [10] (fun kv wx => ∃ (k : Nat) (tv' : Value) (xs : List Int), k < l.length ∧ kv = .int .i64 k ∧ xs ++ backs l k = backs l i ∧ RExp w wx N F sw st (.slice (some ⟨b, 0, none⟩) l.length cap) tv' p l (ends p l (i + 1)) true xs) (fun kv _ => (intOf kv).toNat)
                case atStart => exact ⟨i, tv, [], hlt, rfl, rfl, HR8.out⟩
                case round =>
                  clear HR8 HR7 HR6 HX6
                  obtain ⟨k, tv', xs, hkl, rfl, hxs, hR⟩ := hrel
                  obtain ⟨b', cap', hv', _, _, _, _, hfr, hby⟩ := mets_at hR.mets (fun m hm => (HI.out.wf m hm).1.len) hkl
                  cases hv'
                  have hxl : xs.length ≤ 20000 := by
                    have := congrArg List.length hxs
                    rw [List.length_append] at this
                    omega
                  have hkli : (k : Int) < (l.length : Int) := by omega
                  have HXS := Lib.hid hxs
                  clear hxs
                  by_cases hf : (l.getD k default).fr ≥ 0
                  · obtain ⟨j, hj⟩ := Int.eq_ofNat_of_zero_le hf
                    change (l.getD k default).fr = ((j : Nat) : Int) at hj
                    obtain ⟨hjk, hbk⟩ := backs_go HLK.out hkl hj
                    rw [hj] at hfr
                    generalize (l.getD k default).by' = y at hby hbk
                    have HBK := Lib.hid hbk
                    have HJ := Lib.hid hj
                    have q3 := hR.c3
                    have qf := hR.free 3
                    have HR := Lib.hid hR
                    have hFw := hR.ltw
                    clear hj hbk hR hf
                    have hal : Below wr.heap.size wr (wr.drew.alloc (.cells #[.int .i64 y] 3 (0, 0))) := ((Below.refl _ _).drew).alloc (Nat.le_refl _) _
                    have hR2 := HR.out.more hal
                    have hown : OwnS (wr.drew.alloc (.cells #[.int .i64 y] 3 (0, 0))) (F + 1) 1 tv' xs.length (ints xs) := hR2.own
                    have hrd := reads_cell1 wr.drew (.int .i64 y) 3
                    have n1 : xs.length + 1 ≤ maxLen := by unfold maxLen; omega
                    have n2 : (xs.length + 1) * 8 ≤ 140737488355328 := by omega
                    have n5 : F + 1 ≤ (wr.drew.alloc (.cells #[.int .i64 y] 3 (0, 0))).heap.size := hR2.ltw
                    have HR2 := Lib.hid hR2
                    have HOWN := Lib.hid hown
                    have HRD := Lib.hid hrd
                    have N1 := Lib.hid n1
                    have N2 := Lib.hid n2
                    have N5 := Lib.hid n5
                    clear hR2 hown hrd n1 n2 n5 hal
                    go_wp2_with fail
                    go_region_law (refine step_append_reads rfl (.tmp 66) (.tmp 72) 22 rfl (F + 1) 3 Try.t3 (.int .i64 0) 8 Try.underlying22 HI3.out rfl rfl rfl rfl tv' xs.length (ints xs) rfl HOWN.out (.slice (some ⟨wr.heap.size, 0, none⟩) 1 1) [.int .i64 y] rfl HRD.out (ints_one [y]) N1.out N2.out N5.out ?_; intro v9 w9 hv9 hg9 hob9; obtain ⟨qa, qn, qc, hqe⟩ := any_shape1 hv9; subst hqe; have r3 := (HR2.out.turn H0.out HN.out hg9).2.2.1; have k6 : w9.cell? ⟨F, 3, none⟩ = some tv' := (by simp [World.cell?, r3]); have k7 : w9.frozen? ⟨F, 3, none⟩ = false := (by simp [World.frozen?, r3]); have HV9 := Lib.hid hv9; have HG9 := Lib.hid hg9; clear r3 hv9 hg9 hob9)
                    all_goals (
                      have hR10 := HR2.out.grew (v9 := .slice qa qn qc) (ys := xs ++ [y]) H0.out HN.out HG9.out (by rw [List.length_append, ints_append]; exact HV9.out)
                      generalize w9.setCell ⟨F, 3, none⟩ (.slice qa qn qc) = w10 at hR10 ⊢
                      generalize (Value.slice qa qn qc) = v9 at hR10
                      clear k6 k7 HV9 HG9 q3 qf
                      obtain ⟨b', cap', hv', _, _, _, _, hfr9, _⟩ := mets_at hR10.mets (fun m hm => (HI.out.wf m hm).1.len) hkl
                      cases hv'
                      rw [HJ.out] at hfr9
                      have HR10 := Lib.hid hR10
                      clear hR10 hfr hby
                      go_wp2
                      go_roundw
                      case rel => exact ⟨j, v9, xs ++ [y], by omega, rfl, by rw [← HXS.out, HBK.out, List.append_assoc]; rfl, HR10.out⟩
                      case measure => simp [intOf]; omega)
                  · have hbs := backs_stop hf
                    have hxi : xs = backs l i := by rw [← HXS.out, hbs, List.append_nil]
                    have hfd : decide (0 ≤ (l.getD k default).fr) = false := by simpa [-List.getD_eq_getElem?_getD] using hf
                    generalize (l.getD k default).fr = fr at hfr hfd hf
                    have q3 := hR.c3
                    have HR := Lib.hid hR
                    have HXI := Lib.hid hxi
                    clear hR hby hbs hxi
                    go_wp2_with fail
                    refine (reverse_walk wr (F + 1) xs.length tv' xs HR.out.own (by omega)).mono ?_
                    rintro e w9 ⟨rfl, hv9, hg9⟩
                    have hlast : RExp w w9 N F sw st (.slice (some ⟨b, 0, none⟩) l.length cap) tv' p l (ends p l (i + 1)) (anyBad l (i + 1)) (trail l (i + 1)) := by
                      obtain ⟨r1, r2, r3, r4⟩ := HR.out.turn H0.out HN.out hg9
                      rw [HA1.out, Bool.or_true, HT2.out trivial HAB.out, ← HXI.out]
                      exact ⟨r1, HR.out.lt, r2, r3, by rw [List.length_reverse]; exact hv9, r4, HR.out.lvb⟩
                    have HL := Lib.hid hlast
                    clear hlast hv9 hg9 q3 hfr hfd hf
                    go_wp2
                    go_roundw
                    case rel => exact ⟨i + 1, tv', by omega, by go_num, HL.out⟩
                    case measure => simp [intOf]; omega
        · obtain rfl : i = l.length := by omega
          have hf := hR.f
          have hrs := hR.res
          have hone := found_one l.length (ends p l l.length) (anyBad l l.length) tv (OwnS.one hR.own)
          have HR := Lib.hid hR
          have HF := Lib.hid hf
          have HRS := Lib.hid hrs
          have HONE := Lib.hid hone
          clear hR hf hrs hone
          generalize hC : (#[.int .i64 l.length, .int .i64 (ends p l l.length), .bool (anyBad l l.length), tv] : Array Value) = C at HF HONE
          have HC := Lib.hid hC
          clear hC
          go_wp2_with (first
            | refine wpList_load_row rfl 30 (.tmp 7) rfl F rfl 30 C (0, 0) _ HF.out Try.underlying30 rfl (by rw [← HC.out]; exact info_found) ?_
            | refine wpList_store_row rfl 30 (.tmp 2) (.tmp 79) rfl (N + 1) C rfl rfl 30 _ HRS.out (by rw [← HC.out]; exact info_found) (by rw [← HC.out]; rfl) HONE.out ?_)
          refine bodyPost_ret (results_row_tmp rfl _ _ (N + 1) 30 C (0, 0) _ rfl (heap_setRow HRS.out) Try.underlying30 rfl (by rw [← HC.out]; exact info_found)) rfl ?_
          rw [HE.out, HN.out, ← HC.out]
          have hR := HR.out
          refine ⟨tv, below_setRow hR.chk.below _ (by omega), rfl, ownS_base (OwnS.kept hR.own (grown_setRow _ _ _) ?_) (by omega)⟩
          cases hv : tv.ownBlock with
          | none => exact .inl rfl
          | some k => exact .inr fun e => by have := (hR.own.blk k hv).1; cases e; omega
    · have he : exploreF p = (⟨0, 0, false, []⟩, 271) := by unfold exploreF; rw [if_pos hp, hg]
      have HE := Lib.hid he
      clear he hg
      have HRES := Lib.hid hres3
      clear hres3
      go_wp2_with (refine wpList_store_row rfl 30 (.tmp 2) (.tmp 24) rfl (N + 1) #[.int .i64 0, .int .i64 0, .bool false, .slice none 0 0] rfl rfl 30 _ HRES.out info_found rfl (found_one 0 0 false _ rfl) ?_)
      refine bodyPost_ret (results_row_tmp rfl _ _ (N + 1) 30 #[.int .i64 0, .int .i64 0, .bool false, .slice none 0 0] (0, 0) _ rfl (heap_setRow HRES.out) Try.underlying30 rfl info_found) rfl ?_
      rw [HE.out, HN.out]
      exact ⟨_, below_setRow hR3.below _ (by omega), rfl, OwnS.nil _ _ _⟩
  · rw [if_neg hp]
    have he : exploreF p = (⟨0, 0, false, []⟩, 270) := by unfold exploreF; rw [if_neg hp]
    have HE := Lib.hid he
    clear he
    have HRES := Lib.hid hres2
    clear hres2
    go_wp2_with (refine wpList_store_row rfl 30 (.tmp 2) (.tmp 15) rfl (N + 1) #[.int .i64 0, .int .i64 0, .bool false, .slice none 0 0] rfl rfl 30 _ HRES.out info_found rfl (found_one 0 0 false _ rfl) ?_)
    refine bodyPost_ret (results_row_tmp rfl _ _ (N + 1) 30 #[.int .i64 0, .int .i64 0, .bool false, .slice none 0 0] (0, 0) _ rfl (heap_setRow HRES.out) Try.underlying30 rfl info_found) rfl ?_
    rw [HE.out, HN.out]
    exact ⟨_, below_setRow hR2.below _ (by omega), rfl, OwnS.nil _ _ _⟩
end Go.Proofs.Ytmpgjnindbklaaa
