import Derived.Test.YtmpgjnindbklaaaEIsEnd
namespace Go.Proofs.Ytmpgjnindbklaaa
open Go.RowKit BA Ex

/-- What ExploreShows keeps: the program's box N, what Explore told in block F, the turns that came in. -/
structure RSh (w wr : World) (N F : Nat) (sw st tv uv : Value) (p : Lt) (ss ee : Int) (b : Bool) (T xs : List Int) : Prop where
  chk : RChk w wr N sw st p
  f : wr.heap[F]? = some (.cells #[.int .i64 ss, .int .i64 ee, .bool b, tv] 30 (0, 0))
  tr : Reads wr tv (ints T)
  ur : Reads wr uv (ints xs)
namespace RSh
variable {w wr : World} {N F : Nat} {sw st tv uv : Value} {p : Lt} {ss ee : Int} {b : Bool} {T xs : List Int}
theorem more {w' : World} (h : RSh w wr N F sw st tv uv p ss ee b T xs) (hb : Below wr.heap.size wr w') : RSh w w' N F sw st tv uv p ss ee b T xs :=
  ⟨h.chk.more hb, (hb.block F (by have := h.f; rw [Array.getElem?_eq_some_iff] at this; exact this.1)).trans h.f, reads_below h.tr hb, reads_below h.ur hb⟩
theorem c0 (h : RSh w wr N F sw st tv uv p ss ee b T xs) : wr.cell? ⟨F, 0, none⟩ = some (.int .i64 ss) := by simp [World.cell?, h.f]
theorem c2 (h : RSh w wr N F sw st tv uv p ss ee b T xs) : wr.cell? ⟨F, 2, none⟩ = some (.bool b) := by simp [World.cell?, h.f]
theorem c3 (h : RSh w wr N F sw st tv uv p ss ee b T xs) : wr.cell? ⟨F, 3, none⟩ = some tv := by simp [World.cell?, h.f]
end RSh
theorem copied_has (sw st : Value) (p : Lt) (w : World) (h : PHas w sw st p) (hs : smallB p = true) :
    Calls Try.prog 9 #[.agg #[sw, st]] w fun e w' => ∃ wv qv, e = .returned (.agg #[wv, qv]) ∧ PHas w' wv qv p ∧ Below w.heap.size w w' :=
  (copied_walk sw st p w h hs).mono fun _ _ ⟨wv, qv, _, h1, h2, h3, h4⟩ => ⟨wv, qv, h1, ⟨OwnS.reads h2, h3.threads⟩, h4⟩
theorem explore_ok {p : Lt} : ((exploreF p).2 ≠ 0 ∧ (exploreF p).1.bad = false ∧ (exploreF p).1.states = 0) ∨ (check p = true ∧ ∃ l, goes p = some l ∧ exploreF p = (told p l, 0)) := by
  unfold exploreF
  by_cases hp : check p = true
  · rw [if_pos hp]
    cases hg : goes p with
    | none => exact .inl ⟨by simp, rfl, rfl⟩
    | some l => exact .inr ⟨hp, l, rfl, rfl⟩
  · rw [if_neg hp]
    exact .inl ⟨by simp, rfl, rfl⟩

theorem reads_take {w : World} {b o L c m : Nat} {xs : List Int} (h : Reads w (.slice (some ⟨b, o, none⟩) L c) (ints xs)) (hL : xs.length = L) (hm : m ≤ L) (hc : m ≤ c) (hc' : c ≤ maxLen) : Reads w (.slice (some ⟨b, o, none⟩) m c) (ints (xs.take m)) := by
  by_cases h0 : 0 < m
  · have := reads_part h hL (i := 0) (n := m) (by omega) h0 c hc hc'
    simpa using this
  · obtain rfl : m = 0 := by omega
    exact .inl ⟨rfl, _, _, rfl, hc', fun e => by cases e⟩
theorem OwnG.shape9 {w : World} {base : Nat} {v : Value} {vs : List Value} {ls : List (List Int)} (h : OwnG w base v vs ls) {n : Nat} (hn : ls.length = n) : ∃ a c, v = .slice a n c := by
  obtain ⟨a, c, e⟩ := h.igrid.shape
  exact ⟨a, c, by rw [e, hn]⟩

set_option maxRecDepth 100000 in
set_option maxHeartbeats 4000000 in
theorem shows_walk (sw st uv : Value) (p : Lt) (xs : List Int) (w : World) (h : PHas w sw st p) (hin : PIn p) (hw : p.words.length ≤ 281474976710656) (ht : p.threads.length ≤ 281474976710656) (htt : ∀ k, (p.threads.getD k []).length ≤ 281474976710656) (hr : Reads w uv (ints xs)) :
    Calls Try.prog 6 #[.agg #[sw, st], uv] w fun e w' => e = .returned (.bool true) ∧ Below w.heap.size w w' := by
  have hR := RChk.begin h
  have hi : Try.prog.info? 3 = some Try.t3 := by kernel_rfl
  have HI := Lib.hid hi
  have H0 := Lib.hid h
  clear hi h
  obtain ⟨ua, uc, rfl⟩ := ints_shape hr
  have hr1 := reads_below hr ((Below.refl _ _).alloc (Nat.le_refl _) (.cells #[sw, st] 25 (0, 0)))
  clear hr
  go_enter Try.func6, Try.ntmps6
  go_upto_region 1 with fail
  generalize hW : w.alloc (.cells #[sw, st] 25 (0, 0)) = w1 at hR hr1 ⊢
  clear hW
  generalize hN : w.heap.size = N at hR ⊢
  have HN := Lib.hid hN
  clear hN
  go_wp2_with fail
  refine (known_walk w1).mono ?_
  rintro e w2 ⟨rfl, hb2⟩
  have hR2 := hR.more hb2
  have hr2 := reads_below hr1 hb2
  have q0 := hR2.cell0
  have q1 := hR2.cell1
  clear hR hr1 hb2
  go_wp2_with fail
  refine (small_walk _ _ p w2 hR2.has hw ht htt).mono ?_
  rintro e w3 ⟨rfl, hb3⟩
  have hR3 := hR2.more hb3
  have hr3 := reads_below hr2 hb3
  clear hR2 hr2 hb3 q0 q1
  cases hs : smallB p with
  | false =>
    have HR3 := Lib.hid hR3
    have HR := Lib.hid hr3
    clear hR3 hr3 hs
    go_wp2
    go_ret
    exact ⟨rfl, by rw [HN.out]; exact HR3.out.below⟩
  | true =>
    have q0 := hR3.cell0
    have q1 := hR3.cell1
    have HS := Lib.hid hs
    have HR3 := Lib.hid hR3
    have HR := Lib.hid hr3
    clear hR3 hr3 hs
    by_cases hl : xs.length ≤ 2000
    · have e1 : decide ((2000 : Int) < (xs.length : Int)) = false := decide_eq_false (by omega)
      go_wp2_with fail
      refine (copied_has _ _ p w3 HR3.out.has HS.out).mono ?_
      rintro e w4 ⟨wv, qv, rfl, hp4, hb4⟩
      have HR4 := Lib.hid (HR3.out.more hb4)
      have HRR4 := Lib.hid (reads_below HR.out hb4)
      have HP4 := Lib.hid hp4
      clear hp4 hb4 HR3 HR q0 q1
      go_wp2_with fail
      refine (explore_walk _ _ p w4 HP4.out hin).mono ?_
      rintro e w5 ⟨tv, hb5, rfl, hv5⟩
      have HR5 := Lib.hid (HR4.out.more hb5)
      have HRR5 := Lib.hid (reads_below HRR4.out hb5)
      have hone := found_one (exploreF p).1.states (exploreF p).1.ends (exploreF p).1.bad tv (OwnS.one hv5)
      have HV5 := Lib.hid (OwnS.reads hv5)
      clear hb5 hv5 HR4 HRR4 HP4
      have hcs := explore_ok (p := p)
      obtain ⟨ta, tc, hte⟩ := ints_shape HV5.out
      subst hte
      generalize exploreF p = E at hone HV5 hcs ⊢
      obtain ⟨⟨ss, ee, bb, T⟩, er⟩ := E
      dsimp only at hone HV5 hcs ⊢
      have HCS := Lib.hid hcs
      clear hcs
      go_upto_region 6 with (refine wpList_store_row rfl 30 (.tmp 5) (.tmp 30) rfl w5.heap.size #[.int .i64 ss, .int .i64 ee, .bool bb, .slice ta T.length tc] rfl rfl 30 _ (heap_alloc_new _ _) info_found rfl hone ?_)
      have hb6 : Below w5.heap.size w5 ((w5.alloc (.cells #[.int .i64 0, .int .i64 0, .bool false, .slice none 0 0] 30 (0, 0))).setRow w5.heap.size #[.int .i64 ss, .int .i64 ee, .bool bb, .slice ta T.length tc]) := below_setRow ((Below.refl _ _).alloc (Nat.le_refl _) _) _ (Nat.le_refl _)
      have hS6 : RSh w ((w5.alloc (.cells #[.int .i64 0, .int .i64 0, .bool false, .slice none 0 0] 30 (0, 0))).setRow w5.heap.size #[.int .i64 ss, .int .i64 ee, .bool bb, .slice ta T.length tc]) N w5.heap.size sw st (.slice ta T.length tc) (.slice ua xs.length uc) p ss ee bb T xs :=
        ⟨HR5.out.more hb6, heap_setRow (heap_alloc_new _ _), reads_below HV5.out hb6, reads_below HRR5.out hb6⟩
      generalize (w5.alloc (.cells #[.int .i64 0, .int .i64 0, .bool false, .slice none 0 0] 30)).setRow w5.heap.size #[.int .i64 ss, .int .i64 ee, .bool bb, .slice ta T.length tc] = w6 at hS6 ⊢
      generalize w5.heap.size = F at hS6 ⊢
      clear hb6 HR5 HRR5 HV5 hone
      have x0 := hS6.c0
      have x2 := hS6.c2
      have x3 := hS6.c3
      have HS6 := Lib.hid hS6
      clear hS6
      rcases HCS.out with ⟨her, hbb, hss⟩ | ⟨hp, l, hg, hE⟩
      · subst hbb hss
        have b1 : (er != 0) = true := by simpa using her
        have b2 : (er == 0) = false := by simpa using her
        have b3 : decide (er = 0) = false := decide_eq_false her
        clear her
        go_wp2
        go_ret
        exact ⟨rfl, by rw [HN.out]; exact HS6.out.chk.below⟩
      · have hreach := goes_reach hg
        obtain ⟨hfd, her⟩ := Prod.mk.inj hE
        subst her
        obtain ⟨⟨_, h8, h0t, hT⟩, _⟩ := check_facts hp
        have HRE := Lib.hid hreach
        have HG := Lib.hid hg
        have HFD := Lib.hid hfd.symm
        clear hreach hg hE hfd
        --[MID
        have hcp : ∀ w', Below w6.heap.size w6 w' → Calls Try.prog 9 #[.agg #[sw, st]] w' fun e w'' => ∃ wv qv, e = .returned (.agg #[wv, qv]) ∧ PHas w'' wv qv p ∧ Below w'.heap.size w' w'' := fun w' hb => copied_has _ _ p w' (HS6.out.chk.has.below hb) HS.out
        have hq : ∀ w', Below w6.heap.size w6 w' → w'.cell? ⟨N, 0, none⟩ = some sw ∧ w'.cell? ⟨N, 1, none⟩ = some st ∧ w'.cell? ⟨F, 3, none⟩ = some (.slice ta T.length tc) := fun w' hb => ⟨cell_keep hb HS6.out.chk.cell0, cell_keep hb HS6.out.chk.cell1, cell_keep hb HS6.out.c3⟩
        have HCP := Lib.hid hcp
        have HQ := Lib.hid hq
        clear hcp hq
        have q0 := HS6.out.chk.cell0
        have q1 := HS6.out.chk.cell1
        go_upto_if 43 with fail
        go_cut [5] from 44 (fun s5 wx => s5 = .pointer (some ⟨F, 0, none⟩) ∧ RSh w wx N F sw st (.slice ta T.length tc) (.slice ua xs.length uc) p ss ee bb T xs)
        case first =>
          cases bb with
          | true =>
            obtain ⟨t1, t2, t3, t4, t5⟩ := shows_bad HRE.out (by rw [HFD.out])
            rw [HFD.out] at t1 t2 t3 t4 t5
            dsimp only at t1 t2 t3 t4 t5
            have hff : followF p T = ((turns p T).2, true, 0) := by unfold followF; rw [if_pos ⟨hp, t1⟩, t2]
            have HFF := Lib.hid hff
            have HL9 := Lib.hid t3
            have HT5 := Lib.hid t5
            have n1 : 0 + (ints T).length ≤ maxLen := by simp only [ints, List.length_map]; unfold maxLen; omega
            have n2 : (0 + (ints T).length) * 8 ≤ 140737488355328 := by simp only [ints, List.length_map]; omega
            have N1 := Lib.hid n1
            have N2 := Lib.hid n2
            have hle : T.length ≤ 1000000 := by omega
            have HLE := Lib.hid hle
            have htr : ∀ w', Below w6.heap.size w6 w' → Reads w' (.slice ta T.length tc) (ints T) := fun w' hb => reads_below HS6.out.tr hb
            have HTR := Lib.hid htr
            clear t2 t3 t5 hff n1 n2 hle htr
            go_upto_region 9 with fail
            go_cut [7, 8, 9] from 44 (fun s7 s8 s9 wx => ∃ a7 c7, s7 = .slice a7 T.length c7 ∧ s8 = .bool true ∧ s9 = .int .i64 0 ∧ RSh w wx N F sw st (.slice ta T.length tc) (.slice ua xs.length uc) p ss ee true T xs)
            case first =>
              refine wp_region_noPanic ?_
              refine wp_region_held_drew (S := fun w' => Below w6.heap.size w6 w') (by kernel_rfl) ?_ (fun hHeld => ?_)
              · exact (Below.refl _ _).drew
              refine wpAnyH_take (i := 0) (oi := { dst := some 45, op := _, type := _, pos := _, after := _, guard := none }) (v := ?_) rfl (by kernel_rfl) (by kernel_rfl) (by kernel_rfl) (fun _ _ _ h => h) (Or.inl ⟨by rfl, ?_⟩) (by assumption) ?_
              rotate_left
              · (intro w hSw; obtain ⟨q0, q1, q3⟩ := HQ.out w hSw; clear hSw; go_simp; try with_reducible rfl)
              simp only [Act.put, List.setIfInBounds_toArray, List.set_cons_zero, List.set_cons_succ]
              refine wpAnyH_take (i := 2) (oi := { dst := some 47, op := _, type := _, pos := _, after := _, guard := none }) (v := ?_) rfl (by kernel_rfl) (by kernel_rfl) (by kernel_rfl) (fun _ _ _ h => h) (Or.inl ⟨by rfl, ?_⟩) (by assumption) ?_
              rotate_left
              · (intro w hSw; (try dsimp only at hSw); go_simp; try with_reducible rfl)
              simp only [Act.put, List.setIfInBounds_toArray, List.set_cons_zero, List.set_cons_succ]
              refine wpAnyH_take (i := 3) (oi := { dst := some 48, op := _, type := _, pos := _, after := _, guard := none }) (v := ?_) rfl (by kernel_rfl) (by kernel_rfl) (by kernel_rfl) (fun _ _ _ h => h) (Or.inl ⟨by rfl, ?_⟩) (by assumption) ?_
              rotate_left
              · (intro w hSw; obtain ⟨q0, q1, q3⟩ := HQ.out w hSw; clear hSw; go_simp; try with_reducible rfl)
              simp only [Act.put, List.setIfInBounds_toArray, List.set_cons_zero, List.set_cons_succ]
              refine wpAnyH_ready (rs := [1]) (by kernel_rfl) (by simp) ?_
              refine AllReadyH.cons (o := { dst := some 46, op := _, type := _, pos := _, after := _, guard := none }) rfl (fun K hK => ?_) ?_
              rotate_left
              · exact AllReadyH.nil
              go_simp
              refine (HCP.out _ hHeld).mono ?_
              rintro e w7 ⟨wv7, qv7, rfl, hp7, hb7⟩
              go_wp2_with fail
              refine hK.out _ _ ?_ (fun hHeld' => ?_)
              · exact hHeld.trans (hb7.mono hHeld.size)
              clear hHeld hK K
              have hHeld := hHeld'
              clear hHeld'
              try simp only [Act.put, List.setIfInBounds_toArray, List.set_cons_zero, List.set_cons_succ]
              refine wpAnyH_ready (rs := [4]) (by kernel_rfl) (by simp) ?_
              refine AllReadyH.cons (o := { dst := some 49, op := _, type := _, pos := _, after := _, guard := none }) rfl (fun K hK => ?_) ?_
              rotate_left
              · exact AllReadyH.nil
              refine step_append_reads rfl _ (.tmp 48) 22 rfl w7.heap.size 3 Try.t3 (.int .i64 0) 8 Try.underlying22 HI.out rfl rfl rfl rfl (.slice none 0 0) 0 [] rfl (OwnS.nil _ _ _) (.slice ta T.length tc) (ints T) rfl (HTR.out _ hHeld) (ints_one _) N1.out N2.out (Nat.le_refl _) ?_
              intro v8 w8 hv8 hg8 _
              refine hK.out _ _ ?_ (fun hHeld' => ?_)
              · exact hHeld.trans ((below_grown hg8).mono hHeld.size)
              clear hHeld hK K
              have hHeld := hHeld'
              clear hHeld'
              try simp only [Act.put, List.setIfInBounds_toArray, List.set_cons_zero, List.set_cons_succ]
              refine wpAnyH_ready (rs := [5]) (by kernel_rfl) (by simp) ?_
              refine AllReadyH.cons (o := { dst := some 50, op := _, type := _, pos := _, after := _, guard := none }) rfl (fun K hK => ?_) ?_
              rotate_left
              · exact AllReadyH.nil
              go_simp
              refine (follow_walk wv7 qv7 v8 p T _ (hp7.below (below_grown hg8)) (OwnS.reads hv8) HLE.out).mono ?_
              rintro e w9 ⟨v9, vs9, rfl, hG9, hb9⟩
              rw [HFF.out] at hG9 ⊢
              dsimp only at hG9 ⊢
              obtain ⟨a9, c9, e9⟩ := OwnG.shape9 hG9 HL9.out
              subst e9
              go_wp2_with fail
              refine hK.out _ _ ?_ (fun hHeld' => ?_)
              · exact hHeld.trans (hb9.mono hHeld.size)
              clear hHeld hK K
              have hHeld := hHeld'
              clear hHeld'
              try simp only [Act.put, List.setIfInBounds_toArray, List.set_cons_zero, List.set_cons_succ]
              refine wpAnyH_take (i := 6) (oi := { dst := some 44, op := _, type := _, pos := _, after := _, guard := none }) (v := ?_) rfl (by kernel_rfl) (by kernel_rfl) (by kernel_rfl) (fun _ _ _ h => h) (Or.inl ⟨by rfl, ?_⟩) (by assumption) ?_
              rotate_left
              · (intro w hSw; (try dsimp only at hSw); go_simp; try with_reducible rfl)
              simp only [Act.put, List.setIfInBounds_toArray, List.set_cons_zero, List.set_cons_succ]
              refine wpAnyH_take (i := 7) (oi := { dst := some 51, op := _, type := _, pos := _, after := _, guard := none }) (v := ?_) rfl (by kernel_rfl) (by kernel_rfl) (by kernel_rfl) (fun _ _ _ h => h) (Or.inl ⟨by rfl, ?_⟩) (by assumption) ?_
              rotate_left
              · (intro w hSw; (try dsimp only at hSw); go_simp; try with_reducible rfl)
              simp only [Act.put, List.setIfInBounds_toArray, List.set_cons_zero, List.set_cons_succ]
              refine wpAnyH_take (i := 8) (oi := { dst := some 52, op := _, type := _, pos := _, after := _, guard := none }) (v := ?_) rfl (by kernel_rfl) (by kernel_rfl) (by kernel_rfl) (fun _ _ _ h => h) (Or.inl ⟨by rfl, ?_⟩) (by assumption) ?_
              rotate_left
              · (intro w hSw; (try dsimp only at hSw); go_simp; try with_reducible rfl)
              simp only [Act.put, List.setIfInBounds_toArray, List.set_cons_zero, List.set_cons_succ]
              refine wpAnyH_take (i := 9) (oi := { dst := some 53, op := _, type := _, pos := _, after := _, guard := none }) (v := ?_) rfl (by kernel_rfl) (by kernel_rfl) (by kernel_rfl) (fun _ _ _ h => h) (Or.inl ⟨by rfl, ?_⟩) (by assumption) ?_
              rotate_left
              · (intro w hSw; (try dsimp only at hSw); go_simp; try with_reducible rfl)
              simp only [Act.put, List.setIfInBounds_toArray, List.set_cons_zero, List.set_cons_succ]
              refine wpAnyH_take (i := 10) (oi := { dst := some 7, op := _, type := _, pos := _, after := _, guard := none }) (v := ?_) rfl (by kernel_rfl) (by kernel_rfl) (by kernel_rfl) (fun _ _ _ h => h) (Or.inl ⟨by rfl, ?_⟩) (by assumption) ?_
              rotate_left
              · (intro w hSw; (try dsimp only at hSw); go_simp; try with_reducible rfl)
              simp only [Act.put, List.setIfInBounds_toArray, List.set_cons_zero, List.set_cons_succ]
              refine wpAnyH_take (i := 11) (oi := { dst := some 8, op := _, type := _, pos := _, after := _, guard := none }) (v := ?_) rfl (by kernel_rfl) (by kernel_rfl) (by kernel_rfl) (fun _ _ _ h => h) (Or.inl ⟨by rfl, ?_⟩) (by assumption) ?_
              rotate_left
              · (intro w hSw; (try dsimp only at hSw); go_simp; try with_reducible rfl)
              simp only [Act.put, List.setIfInBounds_toArray, List.set_cons_zero, List.set_cons_succ]
              refine wpAnyH_take (i := 12) (oi := { dst := some 9, op := _, type := _, pos := _, after := _, guard := none }) (v := ?_) rfl (by kernel_rfl) (by kernel_rfl) (by kernel_rfl) (fun _ _ _ h => h) (Or.inl ⟨by rfl, ?_⟩) (by assumption) ?_
              rotate_left
              · (intro w hSw; (try dsimp only at hSw); go_simp; try with_reducible rfl)
              simp only [Act.put, List.setIfInBounds_toArray, List.set_cons_zero, List.set_cons_succ]
              refine wpAnyH_done (by kernel_rfl) ?_ _
              refine NoPanic.normal ?_
              go_wp2_with fail
              go_meet
              exact ⟨_, _, rfl, rfl, rfl, HS6.out.more hHeld⟩
            case rest =>
              obtain ⟨a7, c7, rfl, rfl, rfl, hS9⟩ := hcut
              clear HCP HQ HTR HFF HL9 N1 N2 HLE q0 q1 x0 x2 x3 HS6
              obtain ⟨tb, t0, tc', hv, _⟩ := ints_form hS9.tr (by omega)
              cases hv
              obtain ⟨k1, k2⟩ := reads_cap hS9.tr (by omega)
              generalize hm : T.length - 1 = m at HT5
              have hcp : ∀ w', Below wc.heap.size wc w' → Calls Try.prog 9 #[.agg #[sw, st]] w' fun e w'' => ∃ wv qv, e = .returned (.agg #[wv, qv]) ∧ PHas w'' wv qv p ∧ Below w'.heap.size w' w'' := fun w' hb => copied_has _ _ p w' (hS9.chk.has.below hb) HS.out
              have hq : ∀ w', Below wc.heap.size wc w' → w'.cell? ⟨N, 0, none⟩ = some sw ∧ w'.cell? ⟨N, 1, none⟩ = some st ∧ w'.cell? ⟨F, 3, none⟩ = some (.slice (some ⟨tb, t0, none⟩) T.length tc) := fun w' hb => ⟨cell_keep hb hS9.chk.cell0, cell_keep hb hS9.chk.cell1, cell_keep hb hS9.c3⟩
              have htr : ∀ w', Below wc.heap.size wc w' → Reads w' (.slice (some ⟨tb, t0, none⟩) m tc) (ints (T.take m)) := fun w' hb => reads_take (reads_below hS9.tr hb) rfl (by omega) (by omega) k2
              have hlm : (T.take m).length = m := by rw [List.length_take]; omega
              have n1 : 0 + (ints (T.take m)).length ≤ maxLen := by simp only [ints, List.length_map, hlm]; unfold maxLen; omega
              have n2 : (0 + (ints (T.take m)).length) * 8 ≤ 140737488355328 := by simp only [ints, List.length_map, hlm]; omega
              have hle : (T.take m).length ≤ 1000000 := by omega
              have hff : followF p (T.take m) = ((turns p (T.take m)).2, false, 0) := by unfold followF; rw [if_pos ⟨hp, by omega⟩, HT5.out]
              have x3 := hS9.c3
              have HCP := Lib.hid hcp
              have HQ := Lib.hid hq
              have HTR := Lib.hid htr
              have N1 := Lib.hid n1
              have N2 := Lib.hid n2
              have HLE := Lib.hid hle
              have HFF := Lib.hid hff
              have HS9 := Lib.hid hS9
              have hm2 : IntKind.i64.wrap ((T.length : Int) - 1) = (m : Int) := by rw [wrap_w64]; unfold w64 RowKit.wrap64; omega
              have hmt : (m : Int) ≤ (tc : Int) := by omega
              have b1 : ((T.length : Int) == 0) = false := by rw [beq_eq_false_iff_ne]; omega
              have b2 : decide ((T.length : Int) = 0) = false := decide_eq_false (by omega)
              have b3 : (T.length == 0) = false := by rw [beq_eq_false_iff_ne]; omega
              clear hcp hq htr n1 n2 hle hff hS9 hm hlm t1
              go_upto_region 12 with fail
              go_cut [11] from 44 (fun s11 wx => s11 = .bool false ∧ RSh w wx N F sw st (.slice (some ⟨tb, t0, none⟩) T.length tc) (.slice ua xs.length uc) p ss ee true T xs)
              case first =>
                refine wp_region_noPanic ?_
                refine wp_region_held_drew (S := fun w' => Below wc.heap.size wc w') (by kernel_rfl) ?_ (fun hHeld => ?_)
                · exact (Below.refl _ _).drew
                refine wpAnyH_take (i := 0) (oi := { dst := some 74, op := _, type := _, pos := _, after := _, guard := none }) (v := ?_) rfl (by kernel_rfl) (by kernel_rfl) (by kernel_rfl) (fun _ _ _ h => h) (Or.inl ⟨by rfl, ?_⟩) (by assumption) ?_
                rotate_left
                · (intro w hSw; obtain ⟨q0, q1, q3⟩ := HQ.out w hSw; clear hSw; go_simp; try with_reducible rfl)
                simp only [Act.put, List.setIfInBounds_toArray, List.set_cons_zero, List.set_cons_succ]
                refine wpAnyH_take (i := 2) (oi := { dst := some 76, op := _, type := _, pos := _, after := _, guard := none }) (v := ?_) rfl (by kernel_rfl) (by kernel_rfl) (by kernel_rfl) (fun _ _ _ h => h) (Or.inl ⟨by rfl, ?_⟩) (by assumption) ?_
                rotate_left
                · (intro w hSw; (try dsimp only at hSw); go_simp; try with_reducible rfl)
                simp only [Act.put, List.setIfInBounds_toArray, List.set_cons_zero, List.set_cons_succ]
                refine wpAnyH_take (i := 3) (oi := { dst := some 77, op := _, type := _, pos := _, after := _, guard := none }) (v := ?_) rfl (by kernel_rfl) (by kernel_rfl) (by kernel_rfl) (fun _ _ _ h => h) (Or.inl ⟨by rfl, ?_⟩) (by assumption) ?_
                rotate_left
                · (intro w hSw; obtain ⟨q0, q1, q3⟩ := HQ.out w hSw; clear hSw; go_simp; try with_reducible rfl)
                simp only [Act.put, List.setIfInBounds_toArray, List.set_cons_zero, List.set_cons_succ]
                refine wpAnyH_take (i := 4) (oi := { dst := some 78, op := _, type := _, pos := _, after := _, guard := none }) (v := ?_) rfl (by kernel_rfl) (by kernel_rfl) (by kernel_rfl) (fun _ _ _ h => h) (Or.inl ⟨by rfl, ?_⟩) (by assumption) ?_
                rotate_left
                · (intro w hSw; (try dsimp only at hSw); go_simp; try with_reducible rfl)
                simp only [Act.put, List.setIfInBounds_toArray, List.set_cons_zero, List.set_cons_succ]
                refine wpAnyH_take (i := 5) (oi := { dst := some 79, op := _, type := _, pos := _, after := _, guard := none }) (v := ?_) rfl (by kernel_rfl) (by kernel_rfl) (by kernel_rfl) (fun _ _ _ h => h) (Or.inl ⟨by rfl, ?_⟩) (by assumption) ?_
                rotate_left
                · (intro w hSw; obtain ⟨q0, q1, q3⟩ := HQ.out w hSw; clear hSw; go_simp; try with_reducible rfl)
                simp only [Act.put, List.setIfInBounds_toArray, List.set_cons_zero, List.set_cons_succ]
                refine wpAnyH_take (i := 6) (oi := { dst := some 80, op := _, type := _, pos := _, after := _, guard := none }) (v := ?_) rfl (by kernel_rfl) (by kernel_rfl) (by kernel_rfl) (fun _ _ _ h => h) (Or.inl ⟨by rfl, ?_⟩) (by assumption) ?_
                rotate_left
                · (intro w hSw; (try dsimp only at hSw); go_simp; try with_reducible rfl)
                simp only [Act.put, List.setIfInBounds_toArray, List.set_cons_zero, List.set_cons_succ]
                refine wpAnyH_take (i := 7) (oi := { dst := some 81, op := _, type := _, pos := _, after := _, guard := none }) (v := ?_) rfl (by kernel_rfl) (by kernel_rfl) (by kernel_rfl) (fun _ _ _ h => h) (Or.inl ⟨by rfl, ?_⟩) (by assumption) ?_
                rotate_left
                · (intro w hSw; (try dsimp only at hSw); go_simp; try with_reducible rfl)
                simp only [Act.put, List.setIfInBounds_toArray, List.set_cons_zero, List.set_cons_succ]
                refine wpAnyH_take (i := 8) (oi := { dst := some 82, op := _, type := _, pos := _, after := _, guard := none }) (v := ?_) rfl (by kernel_rfl) (by kernel_rfl) (by kernel_rfl) (fun _ _ _ h => h) (Or.inl ⟨by rfl, ?_⟩) (by assumption) ?_
                rotate_left
                · (intro w hSw; (try dsimp only at hSw); go_simp; try with_reducible rfl)
                simp only [Act.put, List.setIfInBounds_toArray, List.set_cons_zero, List.set_cons_succ]
                refine wpAnyH_ready (rs := [1]) (by kernel_rfl) (by simp) ?_
                refine AllReadyH.cons (o := { dst := some 75, op := _, type := _, pos := _, after := _, guard := none }) rfl (fun K hK => ?_) ?_
                rotate_left
                · exact AllReadyH.nil
                go_simp
                refine (HCP.out _ hHeld).mono ?_
                rintro e w7 ⟨wv7, qv7, rfl, hp7, hb7⟩
                go_wp2_with fail
                refine hK.out _ _ ?_ (fun hHeld' => ?_)
                · exact hHeld.trans (hb7.mono hHeld.size)
                clear hHeld hK K
                have hHeld := hHeld'
                clear hHeld'
                try simp only [Act.put, List.setIfInBounds_toArray, List.set_cons_zero, List.set_cons_succ]
                refine wpAnyH_ready (rs := [9]) (by kernel_rfl) (by simp) ?_
                refine AllReadyH.cons (o := { dst := some 83, op := _, type := _, pos := _, after := _, guard := none }) rfl (fun K hK => ?_) ?_
                rotate_left
                · exact AllReadyH.nil
                refine step_append_reads rfl _ (.tmp 82) 22 rfl w7.heap.size 3 Try.t3 (.int .i64 0) 8 Try.underlying22 HI.out rfl rfl rfl rfl (.slice none 0 0) 0 [] rfl (OwnS.nil _ _ _) (.slice (some ⟨tb, t0, none⟩) m tc) (ints (T.take m)) rfl (HTR.out _ hHeld) (ints_one _) N1.out N2.out (Nat.le_refl _) ?_
                intro v8 w8 hv8 hg8 _
                refine hK.out _ _ ?_ (fun hHeld' => ?_)
                · exact hHeld.trans ((below_grown hg8).mono hHeld.size)
                clear hHeld hK K
                have hHeld := hHeld'
                clear hHeld'
                try simp only [Act.put, List.setIfInBounds_toArray, List.set_cons_zero, List.set_cons_succ]
                refine wpAnyH_ready (rs := [10]) (by kernel_rfl) (by simp) ?_
                refine AllReadyH.cons (o := { dst := some 84, op := _, type := _, pos := _, after := _, guard := none }) rfl (fun K hK => ?_) ?_
                rotate_left
                · exact AllReadyH.nil
                go_simp
                refine (follow_walk wv7 qv7 v8 p (T.take m) _ (hp7.below (below_grown hg8)) (OwnS.reads hv8) HLE.out).mono ?_
                rintro e w9 ⟨v9, vs9, rfl, hG9, hb9⟩
                rw [HFF.out] at hG9 ⊢
                dsimp only at hG9 ⊢
                obtain ⟨a9, c9, e9⟩ := OwnG.shape9 hG9 rfl
                subst e9
                go_wp2_with fail
                refine hK.out _ _ ?_ (fun hHeld' => ?_)
                · exact hHeld.trans (hb9.mono hHeld.size)
                clear hHeld hK K
                have hHeld := hHeld'
                clear hHeld'
                try simp only [Act.put, List.setIfInBounds_toArray, List.set_cons_zero, List.set_cons_succ]
                refine wpAnyH_take (i := 11) (oi := { dst := some 73, op := _, type := _, pos := _, after := _, guard := none }) (v := ?_) rfl (by kernel_rfl) (by kernel_rfl) (by kernel_rfl) (fun _ _ _ h => h) (Or.inl ⟨by rfl, ?_⟩) (by assumption) ?_
                rotate_left
                · (intro w hSw; (try dsimp only at hSw); go_simp; try with_reducible rfl)
                simp only [Act.put, List.setIfInBounds_toArray, List.set_cons_zero, List.set_cons_succ]
                refine wpAnyH_take (i := 12) (oi := { dst := some 85, op := _, type := _, pos := _, after := _, guard := none }) (v := ?_) rfl (by kernel_rfl) (by kernel_rfl) (by kernel_rfl) (fun _ _ _ h => h) (Or.inl ⟨by rfl, ?_⟩) (by assumption) ?_
                rotate_left
                · (intro w hSw; (try dsimp only at hSw); go_simp; try with_reducible rfl)
                simp only [Act.put, List.setIfInBounds_toArray, List.set_cons_zero, List.set_cons_succ]
                refine wpAnyH_take (i := 13) (oi := { dst := some 86, op := _, type := _, pos := _, after := _, guard := none }) (v := ?_) rfl (by kernel_rfl) (by kernel_rfl) (by kernel_rfl) (fun _ _ _ h => h) (Or.inl ⟨by rfl, ?_⟩) (by assumption) ?_
                rotate_left
                · (intro w hSw; (try dsimp only at hSw); go_simp; try with_reducible rfl)
                simp only [Act.put, List.setIfInBounds_toArray, List.set_cons_zero, List.set_cons_succ]
                refine wpAnyH_take (i := 14) (oi := { dst := some 87, op := _, type := _, pos := _, after := _, guard := none }) (v := ?_) rfl (by kernel_rfl) (by kernel_rfl) (by kernel_rfl) (fun _ _ _ h => h) (Or.inl ⟨by rfl, ?_⟩) (by assumption) ?_
                rotate_left
                · (intro w hSw; (try dsimp only at hSw); go_simp; try with_reducible rfl)
                simp only [Act.put, List.setIfInBounds_toArray, List.set_cons_zero, List.set_cons_succ]
                refine wpAnyH_take (i := 15) (oi := { dst := some 10, op := _, type := _, pos := _, after := _, guard := none }) (v := ?_) rfl (by kernel_rfl) (by kernel_rfl) (by kernel_rfl) (fun _ _ _ h => h) (Or.inl ⟨by rfl, ?_⟩) (by assumption) ?_
                rotate_left
                · (intro w hSw; (try dsimp only at hSw); go_simp; try with_reducible rfl)
                simp only [Act.put, List.setIfInBounds_toArray, List.set_cons_zero, List.set_cons_succ]
                refine wpAnyH_take (i := 16) (oi := { dst := some 11, op := _, type := _, pos := _, after := _, guard := none }) (v := ?_) rfl (by kernel_rfl) (by kernel_rfl) (by kernel_rfl) (fun _ _ _ h => h) (Or.inl ⟨by rfl, ?_⟩) (by assumption) ?_
                rotate_left
                · (intro w hSw; (try dsimp only at hSw); go_simp; try with_reducible rfl)
                simp only [Act.put, List.setIfInBounds_toArray, List.set_cons_zero, List.set_cons_succ]
                refine wpAnyH_take (i := 17) (oi := { dst := some 12, op := _, type := _, pos := _, after := _, guard := none }) (v := ?_) rfl (by kernel_rfl) (by kernel_rfl) (by kernel_rfl) (fun _ _ _ h => h) (Or.inl ⟨by rfl, ?_⟩) (by assumption) ?_
                rotate_left
                · (intro w hSw; (try dsimp only at hSw); go_simp; try with_reducible rfl)
                simp only [Act.put, List.setIfInBounds_toArray, List.set_cons_zero, List.set_cons_succ]
                refine wpAnyH_done (by kernel_rfl) ?_ _
                refine NoPanic.normal ?_
                go_wp2_with fail
                go_meet
                exact ⟨rfl, HS9.out.more hHeld⟩
              case rest =>
                obtain ⟨rfl, hS12⟩ := hcut
                clear HCP HQ HTR N1 N2 HLE HFF x3 HS9
                go_wp2
                go_meet
                exact ⟨rfl, hS12⟩
          | false =>
            have hT0 : T = [] := by
              have h1 : (told p l).bad = false := by rw [HFD.out]
              have h2 := turns_none (p := p) (l := l) h1
              rw [HFD.out] at h2
              exact h2
            subst hT0
            go_wp2
            go_meet
            exact ⟨rfl, HS6.out⟩
        case rest =>
          obtain ⟨rfl, hS⟩ := hcut
          clear HCP HQ q0 q1 x0 x2 x3 HS6
          have q0 := hS.chk.cell0
          have q1 := hS.chk.cell1
          have HSC := Lib.hid hS
          clear hS
          go_wp2_with fail
          refine (copied_has _ _ p wc HSC.out.chk.has HS.out).mono ?_
          rintro e w7 ⟨wv7, qv7, rfl, hp7, hb7⟩
          have HS7 := Lib.hid (HSC.out.more hb7)
          have HP7 := Lib.hid hp7
          have n1 : 0 + (ints xs).length ≤ maxLen := by simp only [ints, List.length_map]; unfold maxLen; omega
          have n2 : (0 + (ints xs).length) * 8 ≤ 140737488355328 := by simp only [ints, List.length_map]; omega
          have N1 := Lib.hid n1
          have N2 := Lib.hid n2
          have hff : followF p xs = ((turns p xs).2, (turns p xs).1.bad, 0) := by unfold followF; rw [if_pos ⟨hp, by omega⟩]
          have HFF := Lib.hid hff
          clear hb7 hp7 HSC q0 q1 n1 n2 hff
          go_wp2_with (at_builtin; refine wpList_append_reads _ rfl _ (.tmp 96) 22 rfl w7.heap.size 3 Try.t3 (.int .i64 0) 8 Try.underlying22 HI.out rfl rfl rfl rfl (.slice none 0 0) 0 [] rfl (OwnS.nil _ _ _) (.slice ua xs.length uc) (ints xs) rfl HS7.out.ur (ints_one _) N1.out N2.out (Nat.le_refl _) ?_; intro v8 w8 hv8 hg8 _)
          refine (follow_walk wv7 qv7 v8 p xs w8 (HP7.out.below (below_grown hg8)) (OwnS.reads hv8) (by omega)).mono ?_
          rintro e w9 ⟨v9, vs9, rfl, hG9, hb9⟩
          rw [HFF.out] at hG9 ⊢
          dsimp only at hG9 ⊢
          obtain ⟨a9, c9, e9⟩ := OwnG.shape9 hG9 rfl
          subst e9
          have HS9 := Lib.hid ((HS7.out.more (below_grown hg8)).more hb9)
          have HG9 := Lib.hid hG9.igrid
          have hls := shows_least HRE.out xs
          have hpa := turns_path p xs
          have hla := turns_last p xs
          have hts := turns_short p xs
          clear hv8 hg8 hb9 hG9 HS7 HP7 HFF N1 N2
          generalize turns p xs = Y at HG9 hls hpa hla hts ⊢
          obtain ⟨s, R⟩ := Y
          dsimp only at HG9 hls hpa hla hts ⊢
          have x2 := HS9.out.c2
          have x3 := HS9.out.c3
          cases hsb : s.bad with
          | true =>
            obtain ⟨k1, k2⟩ := hls hsb
            rw [HFD.out] at k1 k2
            dsimp only at k1 k2
            subst k1
            have d1 : decide ((R.length : Int) < (T.length : Int)) = false := decide_eq_false (by omega)
            have d2 : decide (R.length < T.length) = false := decide_eq_false (by omega)
            clear hls hpa hla hsb
            go_wp2_with fail
            go_region
            all_goals (
              go_wp2
              go_ret
              exact ⟨rfl, by rw [HN.out]; exact HS9.out.chk.below.drew⟩)
          | false =>
            rcases hla with hR0 | ⟨rows, hRR⟩
            · subst hR0
              clear hls hpa hsb
              go_wp2_with fail
              go_region
              all_goals (
                go_wp2
                go_ret
                exact ⟨rfl, by rw [HN.out]; exact HS9.out.chk.below.drew⟩)
            · have hRl : 0 < R.length := by rw [hRR]; simp
              obtain ⟨gb, go, gc, u, hv, hcell, hru⟩ := HG9.out.at' (k := R.length - 1) (by omega)
              cases hv
              have hlast : R.getD (R.length - 1) [] = full p s := by rw [hRR]; simp [List.getD_eq_getElem?_getD]
              rw [hlast] at hru
              generalize hm : R.length - 1 = m at hcell
              have hwf := path_wf hp hpa
              have hend : ∀ w', Below w9.heap.size w9 w' → Calls Try.prog 23 #[.agg #[sw, st], u] w' fun e w'' => e = .returned (.bool (endB p s)) ∧ Below w'.heap.size w' w'' := fun w' hb => ended_walk _ _ _ p s w' (HS9.out.chk.has.below hb) (reads_below hru hb) hwf.len h8 hT
              have hise : ∀ w', Below w9.heap.size w9 w' → Calls Try.prog 24 #[.agg #[sw, st], u] w' fun e w'' => e = .returned (.bool (decide (row p s ∈ (endsF p).1))) ∧ Below w'.heap.size w' w'' := fun w' hb => isEnd_walk _ _ _ p s w' (HS9.out.chk.has.below hb) hin HS.out (reads_below hru hb) hwf.len (by omega) h8 hT
              have hqr : ∀ w', Below w9.heap.size w9 w' → w'.cell? ⟨N, 0, none⟩ = some sw ∧ w'.cell? ⟨N, 1, none⟩ = some st ∧ w'.cell? ⟨gb, go + m, none⟩ = some u := fun w' hb => ⟨cell_keep hb HS9.out.chk.cell0, cell_keep hb HS9.out.chk.cell1, cell_keep hb hcell⟩
              have hsh := fun he => shows_end hp HG.out HRE.out hpa hsb he
              have HEND := Lib.hid hend
              have HISE := Lib.hid hise
              have HQR := Lib.hid hqr
              have HSH := Lib.hid hsh
              have hm2 : IntKind.i64.wrap ((R.length : Int) - 1) = (m : Int) := by rw [wrap_w64]; unfold w64 RowKit.wrap64; omega
              have hmR : (m : Int) < (R.length : Int) := by omega
              have b1 : ((R.length : Int) == 0) = false := by rw [beq_eq_false_iff_ne]; omega
              have b2 : decide ((R.length : Int) = 0) = false := decide_eq_false (by omega)
              have b3 : (R.length == 0) = false := by rw [beq_eq_false_iff_ne]; omega
              clear hend hise hqr hsh hls hpa hsb hlast hRR hru hcell hwf hm
              generalize hRn : R.length = n at hm2 hmR b1 b2 b3 hRl ⊢
              clear hRn
              cases heb : endB p s with
              | false =>
                rw [heb] at HEND
                clear heb
                go_wp2_with fail
                refine wp_region_noPanic ?_
                refine wp_region_held_drew (S := fun w' => Below w9.heap.size w9 w') (by kernel_rfl) ?_ (fun hHeld => ?_)
                · exact (Below.refl _ _).drew
                refine wpAnyH_take (i := 0) (oi := { dst := some 120, op := _, type := _, pos := _, after := _, guard := none }) (v := ?_) rfl (by kernel_rfl) (by kernel_rfl) (by kernel_rfl) (fun _ _ _ h => h) (Or.inl ⟨by rfl, ?_⟩) (by assumption) ?_
                rotate_left
                · (intro w hSw; (try dsimp only at hSw); go_simp; try with_reducible rfl)
                simp only [Act.put, List.setIfInBounds_toArray, List.set_cons_zero, List.set_cons_succ]
                refine wpAnyH_take (i := 1) (oi := { dst := some 121, op := _, type := _, pos := _, after := _, guard := none }) (v := ?_) rfl (by kernel_rfl) (by kernel_rfl) (by kernel_rfl) (fun _ _ _ h => h) (Or.inl ⟨by rfl, ?_⟩) (by assumption) ?_
                rotate_left
                · (intro w hSw; (try dsimp only at hSw); go_simp; try with_reducible rfl)
                simp only [Act.put, List.setIfInBounds_toArray, List.set_cons_zero, List.set_cons_succ]
                refine wpAnyH_take (i := 2) (oi := { dst := some 122, op := _, type := _, pos := _, after := _, guard := some (1, false) }) (v := ?_) rfl (by kernel_rfl) (by kernel_rfl) (by kernel_rfl) (fun _ _ _ h => h) (Or.inl ⟨by rfl, ?_⟩) (by assumption) ?_
                rotate_left
                · (intro w hSw; (try dsimp only at hSw); go_simp; try with_reducible rfl)
                simp only [Act.put, List.setIfInBounds_toArray, List.set_cons_zero, List.set_cons_succ]
                refine wpAnyH_take (i := 3) (oi := { dst := some 123, op := _, type := _, pos := _, after := _, guard := some (1, false) }) (v := ?_) rfl (by kernel_rfl) (by kernel_rfl) (by kernel_rfl) (fun _ _ _ h => h) (Or.inl ⟨by rfl, ?_⟩) (by assumption) ?_
                rotate_left
                · (intro w hSw; (try dsimp only at hSw); go_simp; try with_reducible rfl)
                simp only [Act.put, List.setIfInBounds_toArray, List.set_cons_zero, List.set_cons_succ]
                refine wpAnyH_take (i := 4) (oi := { dst := some 124, op := _, type := _, pos := _, after := _, guard := some (1, false) }) (v := ?_) rfl (by kernel_rfl) (by kernel_rfl) (by kernel_rfl) (fun _ _ _ h => h) (Or.inl ⟨by rfl, ?_⟩) (by assumption) ?_
                rotate_left
                · (intro w hSw; (try dsimp only at hSw); go_simp; try with_reducible rfl)
                simp only [Act.put, List.setIfInBounds_toArray, List.set_cons_zero, List.set_cons_succ]
                refine wpAnyH_take (i := 5) (oi := { dst := some 125, op := _, type := _, pos := _, after := _, guard := none }) (v := ?_) rfl (by kernel_rfl) (by kernel_rfl) (by kernel_rfl) (fun _ _ _ h => h) (Or.inl ⟨by rfl, ?_⟩) (by assumption) ?_
                rotate_left
                · (intro w hSw; (try dsimp only at hSw); go_simp; try with_reducible rfl)
                simp only [Act.put, List.setIfInBounds_toArray, List.set_cons_zero, List.set_cons_succ]
                refine wpAnyH_take (i := 6) (oi := { dst := some 126, op := _, type := _, pos := _, after := _, guard := none }) (v := ?_) rfl (by kernel_rfl) (by kernel_rfl) (by kernel_rfl) (fun _ _ _ h => h) (Or.inl ⟨by rfl, ?_⟩) (by assumption) ?_
                rotate_left
                · (intro w hSw; (try dsimp only at hSw); go_simp; try with_reducible rfl)
                simp only [Act.put, List.setIfInBounds_toArray, List.set_cons_zero, List.set_cons_succ]
                refine wpAnyH_take (i := 7) (oi := { dst := some 127, op := _, type := _, pos := _, after := _, guard := some (6, false) }) (v := ?_) rfl (by kernel_rfl) (by kernel_rfl) (by kernel_rfl) (fun _ _ _ h => h) (Or.inl ⟨by rfl, ?_⟩) (by assumption) ?_
                rotate_left
                · (intro w hSw; obtain ⟨q0, q1, qr⟩ := HQR.out w hSw; clear hSw; go_simp; try with_reducible rfl)
                simp only [Act.put, List.setIfInBounds_toArray, List.set_cons_zero, List.set_cons_succ]
                refine wpAnyH_take (i := 8) (oi := { dst := some 128, op := _, type := _, pos := _, after := _, guard := some (6, false) }) (v := ?_) rfl (by kernel_rfl) (by kernel_rfl) (by kernel_rfl) (fun _ _ _ h => h) (Or.inl ⟨by rfl, ?_⟩) (by assumption) ?_
                rotate_left
                · (intro w hSw; (try dsimp only at hSw); go_simp; try with_reducible rfl)
                simp only [Act.put, List.setIfInBounds_toArray, List.set_cons_zero, List.set_cons_succ]
                refine wpAnyH_take (i := 9) (oi := { dst := some 129, op := _, type := _, pos := _, after := _, guard := some (6, false) }) (v := ?_) rfl (by kernel_rfl) (by kernel_rfl) (by kernel_rfl) (fun _ _ _ h => h) (Or.inl ⟨by rfl, ?_⟩) (by assumption) ?_
                rotate_left
                · (intro w hSw; (try dsimp only at hSw); go_simp; try with_reducible rfl)
                simp only [Act.put, List.setIfInBounds_toArray, List.set_cons_zero, List.set_cons_succ]
                refine wpAnyH_take (i := 10) (oi := { dst := some 130, op := _, type := _, pos := _, after := _, guard := some (6, false) }) (v := ?_) rfl (by kernel_rfl) (by kernel_rfl) (by kernel_rfl) (fun _ _ _ h => h) (Or.inl ⟨by rfl, ?_⟩) (by assumption) ?_
                rotate_left
                · (intro w hSw; (try dsimp only at hSw); go_simp; try with_reducible rfl)
                simp only [Act.put, List.setIfInBounds_toArray, List.set_cons_zero, List.set_cons_succ]
                refine wpAnyH_take (i := 11) (oi := { dst := some 131, op := _, type := _, pos := _, after := _, guard := some (6, false) }) (v := ?_) rfl (by kernel_rfl) (by kernel_rfl) (by kernel_rfl) (fun _ _ _ h => h) (Or.inl ⟨by rfl, ?_⟩) (by assumption) ?_
                rotate_left
                · (intro w hSw; (try dsimp only at hSw); go_simp; try with_reducible rfl)
                simp only [Act.put, List.setIfInBounds_toArray, List.set_cons_zero, List.set_cons_succ]
                refine wpAnyH_take (i := 12) (oi := { dst := some 132, op := _, type := _, pos := _, after := _, guard := some (6, false) }) (v := ?_) rfl (by kernel_rfl) (by kernel_rfl) (by kernel_rfl) (fun _ _ _ h => h) (Or.inl ⟨by rfl, ?_⟩) (by assumption) ?_
                rotate_left
                · (intro w hSw; (try dsimp only at hSw); go_simp; try with_reducible rfl)
                simp only [Act.put, List.setIfInBounds_toArray, List.set_cons_zero, List.set_cons_succ]
                refine wpAnyH_take (i := 13) (oi := { dst := some 133, op := _, type := _, pos := _, after := _, guard := some (6, false) }) (v := ?_) rfl (by kernel_rfl) (by kernel_rfl) (by kernel_rfl) (fun _ _ _ h => h) (Or.inl ⟨by rfl, ?_⟩) (by assumption) ?_
                rotate_left
                · (intro w hSw; obtain ⟨q0, q1, qr⟩ := HQR.out w hSw; clear hSw; go_simp; try with_reducible rfl)
                simp only [Act.put, List.setIfInBounds_toArray, List.set_cons_zero, List.set_cons_succ]
                refine wpAnyH_ready (rs := [14]) (by kernel_rfl) (by simp) ?_
                refine AllReadyH.cons (o := { dst := some 134, op := _, type := _, pos := _, after := _, guard := some (6, false) }) rfl (fun K hK => ?_) ?_
                rotate_left
                · exact AllReadyH.nil
                go_simp
                refine (HEND.out _ hHeld).mono ?_
                rintro e w10 ⟨rfl, hbw10⟩
                go_wp2_with fail
                refine hK.out _ _ ?_ (fun hHeld' => ?_)
                · exact hHeld.trans (hbw10.mono hHeld.size)
                clear hHeld hK K
                have hHeld := hHeld'
                clear hHeld'
                try simp only [Act.put, List.setIfInBounds_toArray, List.set_cons_zero, List.set_cons_succ]
                refine wpAnyH_take (i := 15) (oi := { dst := some 135, op := _, type := _, pos := _, after := _, guard := some (6, false) }) (v := ?_) rfl (by kernel_rfl) (by kernel_rfl) (by kernel_rfl) (fun _ _ _ h => h) (Or.inl ⟨by rfl, ?_⟩) (by assumption) ?_
                rotate_left
                · (intro w hSw; (try dsimp only at hSw); go_simp; try with_reducible rfl)
                simp only [Act.put, List.setIfInBounds_toArray, List.set_cons_zero, List.set_cons_succ]
                refine wpAnyH_take (i := 16) (oi := { dst := some 136, op := _, type := _, pos := _, after := _, guard := none }) (v := ?_) rfl (by kernel_rfl) (by kernel_rfl) (by kernel_rfl) (fun _ _ _ h => h) (Or.inl ⟨by rfl, ?_⟩) (by assumption) ?_
                rotate_left
                · (intro w hSw; (try dsimp only at hSw); go_simp; try with_reducible rfl)
                simp only [Act.put, List.setIfInBounds_toArray, List.set_cons_zero, List.set_cons_succ]
                refine wpAnyH_take (i := 17) (oi := { dst := some 137, op := _, type := _, pos := _, after := _, guard := none }) (v := ?_) rfl (by kernel_rfl) (by kernel_rfl) (by kernel_rfl) (fun _ _ _ h => h) (Or.inl ⟨by rfl, ?_⟩) (by assumption) ?_
                rotate_left
                · (intro w hSw; (try dsimp only at hSw); go_simp; try with_reducible rfl)
                simp only [Act.put, List.setIfInBounds_toArray, List.set_cons_zero, List.set_cons_succ]
                refine wpAnyH_take (i := 18) (oi := { dst := some 138, op := _, type := _, pos := _, after := _, guard := some (17, false) }) (v := undef) rfl (by kernel_rfl) (by kernel_rfl) (by kernel_rfl) (fun _ _ _ h => h) (Or.inr ⟨by rfl, rfl⟩) (by assumption) ?_
                simp only [Act.put, List.setIfInBounds_toArray, List.set_cons_zero, List.set_cons_succ]
                refine wpAnyH_take (i := 19) (oi := { dst := some 139, op := _, type := _, pos := _, after := _, guard := some (17, false) }) (v := undef) rfl (by kernel_rfl) (by kernel_rfl) (by kernel_rfl) (fun _ _ _ h => h) (Or.inr ⟨by rfl, rfl⟩) (by assumption) ?_
                simp only [Act.put, List.setIfInBounds_toArray, List.set_cons_zero, List.set_cons_succ]
                refine wpAnyH_take (i := 20) (oi := { dst := some 140, op := _, type := _, pos := _, after := _, guard := some (17, false) }) (v := undef) rfl (by kernel_rfl) (by kernel_rfl) (by kernel_rfl) (fun _ _ _ h => h) (Or.inr ⟨by rfl, rfl⟩) (by assumption) ?_
                simp only [Act.put, List.setIfInBounds_toArray, List.set_cons_zero, List.set_cons_succ]
                refine wpAnyH_take (i := 21) (oi := { dst := some 141, op := _, type := _, pos := _, after := _, guard := some (17, false) }) (v := undef) rfl (by kernel_rfl) (by kernel_rfl) (by kernel_rfl) (fun _ _ _ h => h) (Or.inr ⟨by rfl, rfl⟩) (by assumption) ?_
                simp only [Act.put, List.setIfInBounds_toArray, List.set_cons_zero, List.set_cons_succ]
                refine wpAnyH_take (i := 22) (oi := { dst := some 142, op := _, type := _, pos := _, after := _, guard := some (17, false) }) (v := undef) rfl (by kernel_rfl) (by kernel_rfl) (by kernel_rfl) (fun _ _ _ h => h) (Or.inr ⟨by rfl, rfl⟩) (by assumption) ?_
                simp only [Act.put, List.setIfInBounds_toArray, List.set_cons_zero, List.set_cons_succ]
                refine wpAnyH_take (i := 23) (oi := { dst := some 143, op := _, type := _, pos := _, after := _, guard := some (17, false) }) (v := undef) rfl (by kernel_rfl) (by kernel_rfl) (by kernel_rfl) (fun _ _ _ h => h) (Or.inr ⟨by rfl, rfl⟩) (by assumption) ?_
                simp only [Act.put, List.setIfInBounds_toArray, List.set_cons_zero, List.set_cons_succ]
                refine wpAnyH_take (i := 24) (oi := { dst := some 144, op := _, type := _, pos := _, after := _, guard := some (17, false) }) (v := undef) rfl (by kernel_rfl) (by kernel_rfl) (by kernel_rfl) (fun _ _ _ h => h) (Or.inr ⟨by rfl, rfl⟩) (by assumption) ?_
                simp only [Act.put, List.setIfInBounds_toArray, List.set_cons_zero, List.set_cons_succ]
                refine wpAnyH_take (i := 25) (oi := { dst := some 145, op := _, type := _, pos := _, after := _, guard := some (17, false) }) (v := undef) rfl (by kernel_rfl) (by kernel_rfl) (by kernel_rfl) (fun _ _ _ h => h) (Or.inr ⟨by rfl, rfl⟩) (by assumption) ?_
                simp only [Act.put, List.setIfInBounds_toArray, List.set_cons_zero, List.set_cons_succ]
                refine wpAnyH_take (i := 26) (oi := { dst := some 146, op := _, type := _, pos := _, after := _, guard := none }) (v := ?_) rfl (by kernel_rfl) (by kernel_rfl) (by kernel_rfl) (fun _ _ _ h => h) (Or.inl ⟨by rfl, ?_⟩) (by assumption) ?_
                rotate_left
                · (intro w hSw; (try dsimp only at hSw); go_simp; try with_reducible rfl)
                simp only [Act.put, List.setIfInBounds_toArray, List.set_cons_zero, List.set_cons_succ]
                refine wpAnyH_take (i := 27) (oi := { dst := some 4, op := _, type := _, pos := _, after := _, guard := none }) (v := ?_) rfl (by kernel_rfl) (by kernel_rfl) (by kernel_rfl) (fun _ _ _ h => h) (Or.inl ⟨by rfl, ?_⟩) (by assumption) ?_
                rotate_left
                · (intro w hSw; (try dsimp only at hSw); go_simp; try with_reducible rfl)
                simp only [Act.put, List.setIfInBounds_toArray, List.set_cons_zero, List.set_cons_succ]
                refine wpAnyH_done (by kernel_rfl) ?_ _
                refine NoPanic.normal ?_
                go_wp2
                go_ret
                exact ⟨rfl, by rw [HN.out]; exact (HS9.out.more hHeld).chk.below⟩
              | true =>
                have hd := HSH.out heb
                have hd2 : decide (row p s ∈ (endsF p).1) = true := decide_eq_true hd
                rw [heb] at HEND
                rw [hd2] at HISE
                clear heb hd hd2
                go_wp2_with fail
                refine wp_region_noPanic ?_
                refine wp_region_held_drew (S := fun w' => Below w9.heap.size w9 w') (by kernel_rfl) ?_ (fun hHeld => ?_)
                · exact (Below.refl _ _).drew
                refine wpAnyH_take (i := 0) (oi := { dst := some 120, op := _, type := _, pos := _, after := _, guard := none }) (v := ?_) rfl (by kernel_rfl) (by kernel_rfl) (by kernel_rfl) (fun _ _ _ h => h) (Or.inl ⟨by rfl, ?_⟩) (by assumption) ?_
                rotate_left
                · (intro w hSw; (try dsimp only at hSw); go_simp; try with_reducible rfl)
                simp only [Act.put, List.setIfInBounds_toArray, List.set_cons_zero, List.set_cons_succ]
                refine wpAnyH_take (i := 1) (oi := { dst := some 121, op := _, type := _, pos := _, after := _, guard := none }) (v := ?_) rfl (by kernel_rfl) (by kernel_rfl) (by kernel_rfl) (fun _ _ _ h => h) (Or.inl ⟨by rfl, ?_⟩) (by assumption) ?_
                rotate_left
                · (intro w hSw; (try dsimp only at hSw); go_simp; try with_reducible rfl)
                simp only [Act.put, List.setIfInBounds_toArray, List.set_cons_zero, List.set_cons_succ]
                refine wpAnyH_take (i := 2) (oi := { dst := some 122, op := _, type := _, pos := _, after := _, guard := some (1, false) }) (v := ?_) rfl (by kernel_rfl) (by kernel_rfl) (by kernel_rfl) (fun _ _ _ h => h) (Or.inl ⟨by rfl, ?_⟩) (by assumption) ?_
                rotate_left
                · (intro w hSw; (try dsimp only at hSw); go_simp; try with_reducible rfl)
                simp only [Act.put, List.setIfInBounds_toArray, List.set_cons_zero, List.set_cons_succ]
                refine wpAnyH_take (i := 3) (oi := { dst := some 123, op := _, type := _, pos := _, after := _, guard := some (1, false) }) (v := ?_) rfl (by kernel_rfl) (by kernel_rfl) (by kernel_rfl) (fun _ _ _ h => h) (Or.inl ⟨by rfl, ?_⟩) (by assumption) ?_
                rotate_left
                · (intro w hSw; (try dsimp only at hSw); go_simp; try with_reducible rfl)
                simp only [Act.put, List.setIfInBounds_toArray, List.set_cons_zero, List.set_cons_succ]
                refine wpAnyH_take (i := 4) (oi := { dst := some 124, op := _, type := _, pos := _, after := _, guard := some (1, false) }) (v := ?_) rfl (by kernel_rfl) (by kernel_rfl) (by kernel_rfl) (fun _ _ _ h => h) (Or.inl ⟨by rfl, ?_⟩) (by assumption) ?_
                rotate_left
                · (intro w hSw; (try dsimp only at hSw); go_simp; try with_reducible rfl)
                simp only [Act.put, List.setIfInBounds_toArray, List.set_cons_zero, List.set_cons_succ]
                refine wpAnyH_take (i := 5) (oi := { dst := some 125, op := _, type := _, pos := _, after := _, guard := none }) (v := ?_) rfl (by kernel_rfl) (by kernel_rfl) (by kernel_rfl) (fun _ _ _ h => h) (Or.inl ⟨by rfl, ?_⟩) (by assumption) ?_
                rotate_left
                · (intro w hSw; (try dsimp only at hSw); go_simp; try with_reducible rfl)
                simp only [Act.put, List.setIfInBounds_toArray, List.set_cons_zero, List.set_cons_succ]
                refine wpAnyH_take (i := 6) (oi := { dst := some 126, op := _, type := _, pos := _, after := _, guard := none }) (v := ?_) rfl (by kernel_rfl) (by kernel_rfl) (by kernel_rfl) (fun _ _ _ h => h) (Or.inl ⟨by rfl, ?_⟩) (by assumption) ?_
                rotate_left
                · (intro w hSw; (try dsimp only at hSw); go_simp; try with_reducible rfl)
                simp only [Act.put, List.setIfInBounds_toArray, List.set_cons_zero, List.set_cons_succ]
                refine wpAnyH_take (i := 7) (oi := { dst := some 127, op := _, type := _, pos := _, after := _, guard := some (6, false) }) (v := ?_) rfl (by kernel_rfl) (by kernel_rfl) (by kernel_rfl) (fun _ _ _ h => h) (Or.inl ⟨by rfl, ?_⟩) (by assumption) ?_
                rotate_left
                · (intro w hSw; obtain ⟨q0, q1, qr⟩ := HQR.out w hSw; clear hSw; go_simp; try with_reducible rfl)
                simp only [Act.put, List.setIfInBounds_toArray, List.set_cons_zero, List.set_cons_succ]
                refine wpAnyH_take (i := 8) (oi := { dst := some 128, op := _, type := _, pos := _, after := _, guard := some (6, false) }) (v := ?_) rfl (by kernel_rfl) (by kernel_rfl) (by kernel_rfl) (fun _ _ _ h => h) (Or.inl ⟨by rfl, ?_⟩) (by assumption) ?_
                rotate_left
                · (intro w hSw; (try dsimp only at hSw); go_simp; try with_reducible rfl)
                simp only [Act.put, List.setIfInBounds_toArray, List.set_cons_zero, List.set_cons_succ]
                refine wpAnyH_take (i := 9) (oi := { dst := some 129, op := _, type := _, pos := _, after := _, guard := some (6, false) }) (v := ?_) rfl (by kernel_rfl) (by kernel_rfl) (by kernel_rfl) (fun _ _ _ h => h) (Or.inl ⟨by rfl, ?_⟩) (by assumption) ?_
                rotate_left
                · (intro w hSw; (try dsimp only at hSw); go_simp; try with_reducible rfl)
                simp only [Act.put, List.setIfInBounds_toArray, List.set_cons_zero, List.set_cons_succ]
                refine wpAnyH_take (i := 10) (oi := { dst := some 130, op := _, type := _, pos := _, after := _, guard := some (6, false) }) (v := ?_) rfl (by kernel_rfl) (by kernel_rfl) (by kernel_rfl) (fun _ _ _ h => h) (Or.inl ⟨by rfl, ?_⟩) (by assumption) ?_
                rotate_left
                · (intro w hSw; (try dsimp only at hSw); go_simp; try with_reducible rfl)
                simp only [Act.put, List.setIfInBounds_toArray, List.set_cons_zero, List.set_cons_succ]
                refine wpAnyH_take (i := 11) (oi := { dst := some 131, op := _, type := _, pos := _, after := _, guard := some (6, false) }) (v := ?_) rfl (by kernel_rfl) (by kernel_rfl) (by kernel_rfl) (fun _ _ _ h => h) (Or.inl ⟨by rfl, ?_⟩) (by assumption) ?_
                rotate_left
                · (intro w hSw; (try dsimp only at hSw); go_simp; try with_reducible rfl)
                simp only [Act.put, List.setIfInBounds_toArray, List.set_cons_zero, List.set_cons_succ]
                refine wpAnyH_take (i := 12) (oi := { dst := some 132, op := _, type := _, pos := _, after := _, guard := some (6, false) }) (v := ?_) rfl (by kernel_rfl) (by kernel_rfl) (by kernel_rfl) (fun _ _ _ h => h) (Or.inl ⟨by rfl, ?_⟩) (by assumption) ?_
                rotate_left
                · (intro w hSw; (try dsimp only at hSw); go_simp; try with_reducible rfl)
                simp only [Act.put, List.setIfInBounds_toArray, List.set_cons_zero, List.set_cons_succ]
                refine wpAnyH_take (i := 13) (oi := { dst := some 133, op := _, type := _, pos := _, after := _, guard := some (6, false) }) (v := ?_) rfl (by kernel_rfl) (by kernel_rfl) (by kernel_rfl) (fun _ _ _ h => h) (Or.inl ⟨by rfl, ?_⟩) (by assumption) ?_
                rotate_left
                · (intro w hSw; obtain ⟨q0, q1, qr⟩ := HQR.out w hSw; clear hSw; go_simp; try with_reducible rfl)
                simp only [Act.put, List.setIfInBounds_toArray, List.set_cons_zero, List.set_cons_succ]
                refine wpAnyH_ready (rs := [14]) (by kernel_rfl) (by simp) ?_
                refine AllReadyH.cons (o := { dst := some 134, op := _, type := _, pos := _, after := _, guard := some (6, false) }) rfl (fun K hK => ?_) ?_
                rotate_left
                · exact AllReadyH.nil
                go_simp
                refine (HEND.out _ hHeld).mono ?_
                rintro e w10 ⟨rfl, hbw10⟩
                go_wp2_with fail
                refine hK.out _ _ ?_ (fun hHeld' => ?_)
                · exact hHeld.trans (hbw10.mono hHeld.size)
                clear hHeld hK K
                have hHeld := hHeld'
                clear hHeld'
                try simp only [Act.put, List.setIfInBounds_toArray, List.set_cons_zero, List.set_cons_succ]
                refine wpAnyH_take (i := 15) (oi := { dst := some 135, op := _, type := _, pos := _, after := _, guard := some (6, false) }) (v := ?_) rfl (by kernel_rfl) (by kernel_rfl) (by kernel_rfl) (fun _ _ _ h => h) (Or.inl ⟨by rfl, ?_⟩) (by assumption) ?_
                rotate_left
                · (intro w hSw; (try dsimp only at hSw); go_simp; try with_reducible rfl)
                simp only [Act.put, List.setIfInBounds_toArray, List.set_cons_zero, List.set_cons_succ]
                refine wpAnyH_take (i := 16) (oi := { dst := some 136, op := _, type := _, pos := _, after := _, guard := none }) (v := ?_) rfl (by kernel_rfl) (by kernel_rfl) (by kernel_rfl) (fun _ _ _ h => h) (Or.inl ⟨by rfl, ?_⟩) (by assumption) ?_
                rotate_left
                · (intro w hSw; (try dsimp only at hSw); go_simp; try with_reducible rfl)
                simp only [Act.put, List.setIfInBounds_toArray, List.set_cons_zero, List.set_cons_succ]
                refine wpAnyH_take (i := 17) (oi := { dst := some 137, op := _, type := _, pos := _, after := _, guard := none }) (v := ?_) rfl (by kernel_rfl) (by kernel_rfl) (by kernel_rfl) (fun _ _ _ h => h) (Or.inl ⟨by rfl, ?_⟩) (by assumption) ?_
                rotate_left
                · (intro w hSw; (try dsimp only at hSw); go_simp; try with_reducible rfl)
                simp only [Act.put, List.setIfInBounds_toArray, List.set_cons_zero, List.set_cons_succ]
                refine wpAnyH_take (i := 18) (oi := { dst := some 138, op := _, type := _, pos := _, after := _, guard := some (17, false) }) (v := ?_) rfl (by kernel_rfl) (by kernel_rfl) (by kernel_rfl) (fun _ _ _ h => h) (Or.inl ⟨by rfl, ?_⟩) (by assumption) ?_
                rotate_left
                · (intro w hSw; obtain ⟨q0, q1, qr⟩ := HQR.out w hSw; clear hSw; go_simp; try with_reducible rfl)
                simp only [Act.put, List.setIfInBounds_toArray, List.set_cons_zero, List.set_cons_succ]
                refine wpAnyH_take (i := 19) (oi := { dst := some 139, op := _, type := _, pos := _, after := _, guard := some (17, false) }) (v := ?_) rfl (by kernel_rfl) (by kernel_rfl) (by kernel_rfl) (fun _ _ _ h => h) (Or.inl ⟨by rfl, ?_⟩) (by assumption) ?_
                rotate_left
                · (intro w hSw; (try dsimp only at hSw); go_simp; try with_reducible rfl)
                simp only [Act.put, List.setIfInBounds_toArray, List.set_cons_zero, List.set_cons_succ]
                refine wpAnyH_take (i := 20) (oi := { dst := some 140, op := _, type := _, pos := _, after := _, guard := some (17, false) }) (v := ?_) rfl (by kernel_rfl) (by kernel_rfl) (by kernel_rfl) (fun _ _ _ h => h) (Or.inl ⟨by rfl, ?_⟩) (by assumption) ?_
                rotate_left
                · (intro w hSw; (try dsimp only at hSw); go_simp; try with_reducible rfl)
                simp only [Act.put, List.setIfInBounds_toArray, List.set_cons_zero, List.set_cons_succ]
                refine wpAnyH_take (i := 21) (oi := { dst := some 141, op := _, type := _, pos := _, after := _, guard := some (17, false) }) (v := ?_) rfl (by kernel_rfl) (by kernel_rfl) (by kernel_rfl) (fun _ _ _ h => h) (Or.inl ⟨by rfl, ?_⟩) (by assumption) ?_
                rotate_left
                · (intro w hSw; (try dsimp only at hSw); go_simp; try with_reducible rfl)
                simp only [Act.put, List.setIfInBounds_toArray, List.set_cons_zero, List.set_cons_succ]
                refine wpAnyH_take (i := 22) (oi := { dst := some 142, op := _, type := _, pos := _, after := _, guard := some (17, false) }) (v := ?_) rfl (by kernel_rfl) (by kernel_rfl) (by kernel_rfl) (fun _ _ _ h => h) (Or.inl ⟨by rfl, ?_⟩) (by assumption) ?_
                rotate_left
                · (intro w hSw; (try dsimp only at hSw); go_simp; try with_reducible rfl)
                simp only [Act.put, List.setIfInBounds_toArray, List.set_cons_zero, List.set_cons_succ]
                refine wpAnyH_take (i := 23) (oi := { dst := some 143, op := _, type := _, pos := _, after := _, guard := some (17, false) }) (v := ?_) rfl (by kernel_rfl) (by kernel_rfl) (by kernel_rfl) (fun _ _ _ h => h) (Or.inl ⟨by rfl, ?_⟩) (by assumption) ?_
                rotate_left
                · (intro w hSw; (try dsimp only at hSw); go_simp; try with_reducible rfl)
                simp only [Act.put, List.setIfInBounds_toArray, List.set_cons_zero, List.set_cons_succ]
                refine wpAnyH_take (i := 24) (oi := { dst := some 144, op := _, type := _, pos := _, after := _, guard := some (17, false) }) (v := ?_) rfl (by kernel_rfl) (by kernel_rfl) (by kernel_rfl) (fun _ _ _ h => h) (Or.inl ⟨by rfl, ?_⟩) (by assumption) ?_
                rotate_left
                · (intro w hSw; obtain ⟨q0, q1, qr⟩ := HQR.out w hSw; clear hSw; go_simp; try with_reducible rfl)
                simp only [Act.put, List.setIfInBounds_toArray, List.set_cons_zero, List.set_cons_succ]
                refine wpAnyH_ready (rs := [25]) (by kernel_rfl) (by simp) ?_
                refine AllReadyH.cons (o := { dst := some 145, op := _, type := _, pos := _, after := _, guard := some (17, false) }) rfl (fun K hK => ?_) ?_
                rotate_left
                · exact AllReadyH.nil
                go_simp
                refine (HISE.out _ hHeld).mono ?_
                rintro e w11 ⟨rfl, hbw11⟩
                go_wp2_with fail
                refine hK.out _ _ ?_ (fun hHeld' => ?_)
                · exact hHeld.trans (hbw11.mono hHeld.size)
                clear hHeld hK K
                have hHeld := hHeld'
                clear hHeld'
                try simp only [Act.put, List.setIfInBounds_toArray, List.set_cons_zero, List.set_cons_succ]
                refine wpAnyH_take (i := 26) (oi := { dst := some 146, op := _, type := _, pos := _, after := _, guard := none }) (v := ?_) rfl (by kernel_rfl) (by kernel_rfl) (by kernel_rfl) (fun _ _ _ h => h) (Or.inl ⟨by rfl, ?_⟩) (by assumption) ?_
                rotate_left
                · (intro w hSw; (try dsimp only at hSw); go_simp; try with_reducible rfl)
                simp only [Act.put, List.setIfInBounds_toArray, List.set_cons_zero, List.set_cons_succ]
                refine wpAnyH_take (i := 27) (oi := { dst := some 4, op := _, type := _, pos := _, after := _, guard := none }) (v := ?_) rfl (by kernel_rfl) (by kernel_rfl) (by kernel_rfl) (fun _ _ _ h => h) (Or.inl ⟨by rfl, ?_⟩) (by assumption) ?_
                rotate_left
                · (intro w hSw; (try dsimp only at hSw); go_simp; try with_reducible rfl)
                simp only [Act.put, List.setIfInBounds_toArray, List.set_cons_zero, List.set_cons_succ]
                refine wpAnyH_done (by kernel_rfl) ?_ _
                refine NoPanic.normal ?_
                go_wp2
                go_ret
                exact ⟨rfl, by rw [HN.out]; exact (HS9.out.more hHeld).chk.below⟩
        --MID]
    · have e1 : decide ((2000 : Int) < (xs.length : Int)) = true := decide_eq_true (by omega)
      go_wp2
      go_ret
      exact ⟨rfl, by rw [HN.out]; exact HR3.out.below⟩
end Go.Proofs.Ytmpgjnindbklaaa
namespace Go.Proofs.Ytmpgjnindbklaaa
open Go.RowKit BA Ex
/-- As the row wants it. -/
theorem shows_row (sw st : Value) (p : Lt) (v : Value) (l : List Int) (w : World) (h : PHas w sw st p) (hin : PIn p) (hw : p.words.length ≤ 281474976710656) (ht : p.threads.length ≤ 281474976710656) (htt : ∀ k, (p.threads.getD k []).length ≤ 281474976710656) (hr : Reads w v (l.map (Value.int .i64))) (_hl : l.length * 8 ≤ reachBytes) :
    Calls Try.prog 6 #[.agg #[sw, st], v] w fun e w' => e = .returned (.bool true) ∧ Below w.heap.size w w' := shows_walk sw st v p l w h hin hw ht htt hr
end Go.Proofs.Ytmpgjnindbklaaa
