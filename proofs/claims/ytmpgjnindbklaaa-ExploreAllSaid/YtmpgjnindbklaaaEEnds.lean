import Derived.Test.YtmpgjnindbklaaaEExplore
import Derived.Test.YtmpgjnindbklaaaESort
import Derived.Test.YtmpgjnindbklaaaERow2
namespace Go.Proofs.Ytmpgjnindbklaaa
namespace Ex
def endRows (p : Lt) (l : List Met) (i : Nat) : List (List Int) := ((l.take i).filter fun m => over p m.s).map fun m => row p m.s
def endsF (p : Lt) : List (List Int) × Int :=
  if check p then match goes p with
    | some l => (sortL (endRows p l l.length), 0)
    | none => ([], 271)
  else ([], 270)
theorem endRows_next {p : Lt} {l : List Met} {i : Nat} (h : i < l.length) : endRows p l (i + 1) = endRows p l i ++ if over p (l.getD i default).s then [row p (l.getD i default).s] else [] := by
  unfold endRows
  rw [take_next h, List.filter_append, List.map_append]
  generalize l.getD i default = m
  by_cases ho : over p m.s = true <;> simp [List.filter, ho]
theorem endRows_len (p : Lt) (l : List Met) (i : Nat) : (endRows p l i).length ≤ l.length := by
  unfold endRows
  rw [List.length_map]
  exact ends_le p l i
theorem row_len (p : Lt) (s : St) (h8 : p.words.length ≤ 8) (h4 : p.threads.length ≤ 4) : (row p s).length ≤ 24 := by
  unfold row
  rw [List.length_append]
  have h1 : (s.c.take p.words.length).length ≤ 8 := by rw [List.length_take]; omega
  have h2 : ∀ n, ((List.range n).flatMap fun k => (s.c.drop (12 + 4 * k)).take 4).length ≤ 4 * n := by
    intro n
    induction n with
    | zero => simp
    | succ n ih =>
      rw [List.range_succ, List.flatMap_append, List.length_append]
      have : ((s.c.drop (12 + 4 * n)).take 4).length ≤ 4 := by rw [List.length_take]; omega
      simp only [List.flatMap_cons, List.flatMap_nil, List.append_nil]
      omega
  have h3 := h2 p.threads.length
  omega
theorem endRows_short {p : Lt} {l : List Met} (h8 : p.words.length ≤ 8) (h4 : p.threads.length ≤ 4) : ∀ x ∈ endRows p l l.length, x.length ≤ 1000000 := by
  intro x hx
  unfold endRows at hx
  rw [List.mem_map] at hx
  obtain ⟨m, _, rfl⟩ := hx
  have := row_len p m.s h8 h4
  omega
end Ex
open Go.RowKit BA Ex

theorem one_all {u : Value} (h : u.oneCell' = true) : ∀ x ∈ [u], x.oneCell' = true := fun x hx => by
  simp only [List.mem_singleton] at hx
  subst hx
  exact h

set_option maxRecDepth 100000 in
set_option maxHeartbeats 4000000 in
theorem ends_walk (sw st : Value) (p : Lt) (w : World) (h : PHas w sw st p) (hin : PIn p) :
    Calls Try.prog 16 #[.agg #[sw, st]] w fun e w' => ∃ v vs, Below w.heap.size w w' ∧
      e = .returned (.tuple #[v, .int .i64 (endsF p).2]) ∧ OwnG w' w.heap.size v vs (endsF p).1 := by
  have hR1 := (RChk.begin h)
  have H0 := Lib.hid h
  clear h
  have hi : Try.prog.info? 22 = some Try.t22 := by kernel_rfl
  have HJ := Lib.hid hi
  clear hi
  go_enter Try.func16, Try.ntmps16
  go_upto_region 1 with fail
  generalize hW : (w.alloc (.cells #[sw, st] 25 (0, 0))) = w1 at hR1 ⊢
  clear hW
  generalize hN : w.heap.size = N at hR1 ⊢
  have HN := Lib.hid hN
  clear hN
  have q0 := hR1.cell0
  have q1 := hR1.cell1
  go_wp2_with fail
  refine (check_walk _ _ p w1 hR1.has).mono ?_
  rintro e w2 ⟨rfl, hb2⟩
  have hR2 := hR1.more hb2
  have q0 := hR2.cell0
  have q1 := hR2.cell1
  clear hR1 hb2
  unfold chkE
  by_cases hp : check p = true
  · rw [if_pos hp]
    obtain ⟨⟨_, h8, _, h4⟩, _⟩ := check_facts hp
    go_wp2_with fail
    refine (goes_walk _ _ p w2 hR2.has hp hin).mono ?_
    rintro e w3 ⟨lv, hb3, hcase⟩
    have hR3 := hR2.more hb3
    have hNw : N + 1 ≤ w2.heap.size := by have := hR2.box; rw [Array.getElem?_eq_some_iff] at this; exact this.1
    have HB3 := Lib.hid hb3
    clear hR2 hb3 q0 q1
    have q0 := hR3.cell0
    have q1 := hR3.cell1
    rcases hcase with ⟨l, hg, hI, rfl, hO3⟩ | ⟨hg, rfl⟩
    · have he : endsF p = (sortL (endRows p l l.length), 0) := by unfold endsF; rw [if_pos hp, hg]
      have HE := Lib.hid he
      have HI := Lib.hid hI
      have hsh : l.length ≤ 20000 := hI.short
      have hrsh := endRows_short (l := l) h8 h4
      have HRSH := Lib.hid hrsh
      clear he hg hI hrsh
      have hw3 : w2.heap.size ≤ w3.heap.size := HB3.out.size
      obtain ⟨b, cap, hv, hNb, hbl, _⟩ := mets_at hO3 (fun m hm => (HI.out.wf m hm).1.len) HI.out.some'
      subst hv
      have HR3 := Lib.hid hR3
      have HO3 := Lib.hid hO3
      have hNB : N + 1 ≤ w3.heap.size := by omega
      clear hR3 hO3
      go_wp2_with fail
      generalize hB : w3.heap.size = B at hbl hNB
      have HB := Lib.hid hB
      clear hB q0 q1
      go_loopw [7, 25] (fun ov iv wr => ∃ (i : Nat) (vs : List Value), i ≤ l.length ∧ iv = .int .i64 i ∧ RChk w wr N sw st p ∧ OwnS wr (N + 1) 31 (.slice (some ⟨b, 0, none⟩) l.length cap) l.length (flatM l) ∧ OwnG wr B ov vs (endRows p l i) ∧ B ≤ wr.heap.size) (fun _ iv _ => l.length - (intOf iv).toNat)
      case atStart => exact ⟨0, [], by omega, rfl, HR3.out, ownS_base HO3.out (by omega), OwnG.nil _ _, by rw [HB.out]; exact Nat.le_refl _⟩
      case round =>
        clear HR3 HO3 HB3 hw3 HB
        obtain ⟨i, vs, hil, rfl, hR, hO, hG, hBw⟩ := hrel
        have hel := endRows_len p l i
        by_cases hlt : i < l.length
        · have hrow := mets_row hO (fun m hm => (HI.out.wf m hm).1.len) hlt
          have hlen : (l.getD i default).s.c.length = 28 := (HI.out.at' hlt).1.len
          have hCl := metC_len hlen
          have hC1 := metC_one (l.getD i default)
          have he1 := endRows_next (p := p) hlt
          have hCA : ∀ j u, (stA (l.getD i default).s.c (l.getD i default).s.bad).toList[j]? = some u → (metC (l.getD i default))[j]? = some u := fun j u hj => by
            unfold metC
            rw [List.getElem?_append_left (List.getElem?_eq_some_iff.1 hj).1]; exact hj
          have hia : (Try.prog.info? 70).map (·.size) = some (stA (l.getD i default).s.c (l.getD i default).s.bad).toList.length := by rw [Array.length_toList, stA_size hlen]; exact info_state
          generalize l.getD i default = m at hrow hlen hCl hC1 he1 hCA hia
          have hov := fun wx (hh : PHas wx sw st p) => over_walk sw st m.s.c m.s.bad p wx hh hlen h4
          have hrw := fun wx (hh : PHas wx sw st p) => row_walk sw st m.s.c m.s.bad p wx hh hlen h8 h4
          generalize metC m = C at hrow hCl hC1 hCA
          generalize stA m.s.c m.s.bad = A at hCA hia hov hrw
          have hmm : over p ⟨m.s.c, m.s.bad⟩ = over p m.s := rfl
          rw [hmm] at hov
          have hmr : row p ⟨m.s.c, m.s.bad⟩ = row p m.s := rfl
          rw [hmr] at hrw
          generalize over p m.s = ov at he1 hov
          generalize row p m.s = rw at he1 hrw
          have hic : (Try.prog.info? 72).map (·.size) = some C.length := by rw [hCl]; exact info_met
          have hCA1 : C.toArray.all (·.oneCell') = true := by rw [Array.all_eq_true_iff_forall_mem]; intro x hx; exact hC1 x (by simpa using hx)
          have hol := hG.own
          generalize hen : (endRows p l i).length = en at hol hel
          have HEN := Lib.hid hen
          have HROW := Lib.hid hrow
          have HCL := Lib.hid hCl
          have HE1 := Lib.hid he1
          have HCA := Lib.hid hCA
          have HIA := Lib.hid hia
          have HIC := Lib.hid hic
          have HOV := Lib.hid hov
          have HRW := Lib.hid hrw
          have HCA1 := Lib.hid hCA1
          have HR := Lib.hid hR
          have HO := Lib.hid hO
          have HG := Lib.hid hG
          have hili : (i : Int) < (l.length : Int) := by omega
          clear hrow hlen hCl hC1 he1 hCA hia hic hov hrw hCA1 hR hmm hmr hO hG hol hen
          go_upto_region 11 with (first
            | refine wpList_load_mid rfl 72 (.tmp 27) rfl b (i * 31) rfl C _ HROW.out Try.underlying72 rfl HIC.out ?_
            | refine wpList_store_row rfl 72 (.tmp 9) (.tmp 28) rfl wr.heap.size C.toArray rfl rfl 72 _ (heap_alloc_new _ _) HIC.out HCL.out.symm HCA1.out ?_)
          have hb5 : Below wr.heap.size wr ((wr.alloc (.cells #[Value.int .i64 0, Value.int .i64 0, Value.int .i64 0, Value.int .i64 0, Value.int .i64 0, Value.int .i64 0, Value.int .i64 0, Value.int .i64 0, Value.int .i64 0, Value.int .i64 0, Value.int .i64 0, Value.int .i64 0, Value.int .i64 0, Value.int .i64 0, Value.int .i64 0, Value.int .i64 0, Value.int .i64 0, Value.int .i64 0, Value.int .i64 0, Value.int .i64 0, Value.int .i64 0, Value.int .i64 0, Value.int .i64 0, Value.int .i64 0, Value.int .i64 0, Value.int .i64 0, Value.int .i64 0, Value.int .i64 0, Value.bool false, Value.int .i64 0, Value.int .i64 0] 72 (0, 0))).setRow wr.heap.size C.toArray) := below_setRow ((Below.refl _ _).alloc (Nat.le_refl _) _) _ (Nat.le_refl _)
          have hx5 : ((wr.alloc (.cells #[Value.int .i64 0, Value.int .i64 0, Value.int .i64 0, Value.int .i64 0, Value.int .i64 0, Value.int .i64 0, Value.int .i64 0, Value.int .i64 0, Value.int .i64 0, Value.int .i64 0, Value.int .i64 0, Value.int .i64 0, Value.int .i64 0, Value.int .i64 0, Value.int .i64 0, Value.int .i64 0, Value.int .i64 0, Value.int .i64 0, Value.int .i64 0, Value.int .i64 0, Value.int .i64 0, Value.int .i64 0, Value.int .i64 0, Value.int .i64 0, Value.int .i64 0, Value.int .i64 0, Value.int .i64 0, Value.int .i64 0, Value.bool false, Value.int .i64 0, Value.int .i64 0] 72 (0, 0))).setRow wr.heap.size C.toArray).heap[wr.heap.size]? = some (.cells C.toArray 72 (0, 0)) := heap_setRow (heap_alloc_new _ _)
          have hR5 := HR.out.more hb5
          have hO5 := OwnS.below HO.out hb5
          have hG5 := HG.out.below hb5
          have hB5 : B ≤ ((wr.alloc (.cells #[Value.int .i64 0, Value.int .i64 0, Value.int .i64 0, Value.int .i64 0, Value.int .i64 0, Value.int .i64 0, Value.int .i64 0, Value.int .i64 0, Value.int .i64 0, Value.int .i64 0, Value.int .i64 0, Value.int .i64 0, Value.int .i64 0, Value.int .i64 0, Value.int .i64 0, Value.int .i64 0, Value.int .i64 0, Value.int .i64 0, Value.int .i64 0, Value.int .i64 0, Value.int .i64 0, Value.int .i64 0, Value.int .i64 0, Value.int .i64 0, Value.int .i64 0, Value.int .i64 0, Value.int .i64 0, Value.int .i64 0, Value.bool false, Value.int .i64 0, Value.int .i64 0] 72 (0, 0))).setRow wr.heap.size C.toArray).heap.size := Nat.le_trans hBw hb5.size
          generalize (wr.alloc (.cells #[Value.int .i64 0, Value.int .i64 0, Value.int .i64 0, Value.int .i64 0, Value.int .i64 0, Value.int .i64 0, Value.int .i64 0, Value.int .i64 0, Value.int .i64 0, Value.int .i64 0, Value.int .i64 0, Value.int .i64 0, Value.int .i64 0, Value.int .i64 0, Value.int .i64 0, Value.int .i64 0, Value.int .i64 0, Value.int .i64 0, Value.int .i64 0, Value.int .i64 0, Value.int .i64 0, Value.int .i64 0, Value.int .i64 0, Value.int .i64 0, Value.int .i64 0, Value.int .i64 0, Value.int .i64 0, Value.int .i64 0, Value.bool false, Value.int .i64 0, Value.int .i64 0] 72)).setRow wr.heap.size C.toArray = w5 at hR5 hx5 hO5 hG5 hB5 ⊢
          generalize wr.heap.size = M at hx5 hBw ⊢
          clear hb5 HR HROW HO HG
          have hrg5 : w5.rangeAt M 0 A.toList := fun j u hj => by
            have := HCA.out j u hj
            simp only [World.cell?, hx5, Nat.zero_add]
            simpa using this
          have q0 := hR5.cell0
          have q1 := hR5.cell1
          have HR5 := Lib.hid hR5
          have HO5 := Lib.hid hO5
          have HG5 := Lib.hid hG5
          have HX5 := Lib.hid hx5
          have HRG5 := Lib.hid hrg5
          clear hR5 hx5 hrg5 hO5 hG5
          go_upto_if 32 with (first
            | refine wpList_load_mid rfl 70 (.tmp 29) rfl M 0 rfl A.toList _ HRG5.out Try.underlying70 rfl HIA.out ?_
            | (go_at_call 30; refine (HOV.out _ HR5.out.has).mono ?_; rintro e w6 ⟨rfl, hb6⟩))
          have hR6 := HR5.out.more hb6
          have hO6 := OwnS.below HO5.out hb6
          have hG6 := HG5.out.below hb6
          have hM5 : M < w5.heap.size := by have := HX5.out; rw [Array.getElem?_eq_some_iff] at this; exact this.1
          have hx6 := (hb6.block M hM5).trans HX5.out
          have hB6 := Nat.le_trans hB5 hb6.size
          have hrg6 : w6.rangeAt M 0 A.toList := fun j u hj => by
            have := HCA.out j u hj
            simp only [World.cell?, hx6, Nat.zero_add]
            simpa using this
          have q0 := hR6.cell0
          have q1 := hR6.cell1
          have HR6 := Lib.hid hR6
          have HO6 := Lib.hid hO6
          have HG6 := Lib.hid hG6
          have HRG6 := Lib.hid hrg6
          clear hR6 hO6 hG6 hx6 hrg6 hb6 HR5 HO5 HG5 HRG5 HX5
          have n1 : en + 1 ≤ maxLen := by unfold maxLen; omega
          have n2 : (en + 1) * 24 ≤ 140737488355328 := by omega
          have N1 := Lib.hid n1
          have N2 := Lib.hid n2
          clear n1 n2
          cases ov with
          | false =>
            go_wp2
            go_roundw
            case rel => exact ⟨i + 1, vs, by omega, by go_num, HR6.out, HO6.out, by rw [HE1.out]; simpa using HG6.out, hB6⟩
            case measure => simp [intOf]; omega
          | true =>
            go_wp2_with (first
              | refine wpList_load_mid rfl 70 (.tmp 34) rfl M 0 rfl A.toList _ HRG6.out Try.underlying70 rfl HIA.out ?_
              | fail)
            refine (HRW.out _ HR6.out.has).mono ?_
            rintro e w7 ⟨rv, rfl, hrv, hb7⟩
            obtain ⟨ra, rc, hrs⟩ := ints_shape hrv.reads
            have hO7 := OwnS.below HO6.out hb7
            have hG7 := HG6.out.below hb7
            have hR7 := HR6.out.more hb7
            have hown := OwnS.alloc hG7.own (.cells #[rv] 22 (0, 0))
            rw [HEN.out] at hown
            have hone := OwnS.one hrv
            have hcell := cell_new0 w7 rv 22
            have hB7 : B ≤ (w7.alloc (.cells #[rv] 22 (0, 0))).heap.size := by have := hb7.size; simp; omega
            generalize hml : rw.length = ml at hrv hrs
            have HML := Lib.hid hml
            clear hml
            subst hrs
            have hwr7 := hb7.size
            have hb6r := HG6.out.own
            have HBL := Lib.hid (fun k hk => (hb6r.blk k hk).2 : ∀ k, u7.ownBlock = some k → k < w6.heap.size)
            have HRV := Lib.hid hrv
            have HO7 := Lib.hid hO7
            have HG7 := Lib.hid hG7
            have HR7 := Lib.hid hR7
            clear hrv hb7 hO7 hG7 hR7 hb6r HR6 HO6 HG6 HRG6 q0 q1
            go_wp2_with (at_builtin; (refine wpList_append_ownS _ rfl (.tmp 33) (.tmp 38) 38 rfl B 22 Try.t22 (.slice none 0 0) 1 24 Try.underlying38 HJ.out rfl rfl rfl rfl (by decide) u7 en vs rfl hown ⟨w7.heap.size, 0, none⟩ 1 1 [.slice ra ml rc] rfl rfl hcell (one_all hone) N1.out N2.out hB7 ?_); intro v3 w8 hv3 hg3 hob3)
            go_roundw
            case rel =>
              have hal : Below w7.heap.size w7 (w7.alloc (.cells #[.slice ra ml rc] 22 (0, 0))) := (Below.refl _ _).alloc (Nat.le_refl _) _
              refine ⟨i + 1, vs ++ [.slice ra ml rc], by omega, by go_num, (HR7.out.more hal).grown H0.out HN.out hg3 (fun j hj => by have := (HG7.out.own.blk j hj).1; omega), ?_, ?_, Nat.le_trans hB7 hg3.size⟩
              · refine (OwnS.alloc HO7.out _).kept hg3 (.inr fun e => ?_)
                have := (HG7.out.own.blk b e.symm).1
                omega
              · rw [HE1.out, if_pos trivial]
                refine (HG7.out.below hal).push (u := .slice ra ml rc) (l := rw) (by rw [HML.out]; exact OwnS.alloc (ownS_base HRV.out (by omega)) _) ?_ (by rw [HEN.out]; exact hv3) hg3 hob3
                cases hub : (Value.slice ra ml rc).ownBlock with
                | none => exact .inl rfl
                | some j =>
                  refine .inr fun e => ?_
                  have q1 := (HRV.out.blk j hub).1
                  have q2 := HBL.out j e.symm
                  omega
            case measure => simp [intOf]; omega
        · obtain rfl : i = l.length := by omega
          have HR := Lib.hid hR
          have HG := Lib.hid hG
          clear hR hG hO
          go_wp2_with fail
          refine (sort_walk wr B u7 vs (endRows p l l.length) HG.out HRSH.out (by omega)).mono ?_
          rintro e w9 ⟨rfl, vs', hG9, hg9⟩
          have hR9 := HR.out.grown H0.out HN.out hg9 (fun j hj => by have := (HG.out.own.blk j hj).1; omega)
          have HG9 := Lib.hid hG9
          have HR9 := Lib.hid hR9
          clear hG9 hg9 hR9
          go_wp2
          go_returns
          exact ⟨_, vs', by rw [HN.out]; exact HR9.out.below, by rw [HE.out]; rfl, by rw [HE.out, HN.out]; exact OwnG.base HG9.out (by omega)⟩
    · have he : endsF p = ([], 271) := by unfold endsF; rw [if_pos hp, hg]
      have HE := Lib.hid he
      clear he hg
      go_wp2
      go_returns
      exact ⟨.slice none 0 0, [], by rw [HN.out]; exact hR3.below, by rw [HE.out]; rfl, by rw [HE.out]; exact OwnG.nil _ _⟩
  · rw [if_neg hp]
    have he : endsF p = ([], 270) := by unfold endsF; rw [if_neg hp]
    have HE := Lib.hid he
    clear he
    go_wp2
    go_returns
    exact ⟨.slice none 0 0, [], by rw [HN.out]; exact hR2.below, by rw [HE.out]; rfl, by rw [HE.out]; exact OwnG.nil _ _⟩
end Go.Proofs.Ytmpgjnindbklaaa
