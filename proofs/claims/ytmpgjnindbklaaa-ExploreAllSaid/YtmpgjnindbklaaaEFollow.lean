import Derived.Test.YtmpgjnindbklaaaEStep3
import Derived.Test.YtmpgjnindbklaaaEChk3
import Derived.Deep.Cut
import Derived.Handy
import Derived.Test.YtmpgjnindbklaaaBase
namespace Go.Proofs.Ytmpgjnindbklaaa
open Go.RowKit BA Ex

/-- What Follow's rounds keep. -/
structure RFol (w wr : World) (N S : Nat) (c : List Int) (bad : Bool) (sw st : Value) : Prop where
  below : Below N w wr
  nw : w.heap.size = N
  box : wr.heap[N]? = some (.cells #[sw, st] 25 (0, 0))
  s : Sta wr S c bad
  lt : N < S

theorem RFol.kept {w wr w' : World} {N S : Nat} {c : List Int} {bad : Bool} {sw st : Value} {row : Option Nat} (h : RFol w wr N S c bad sw st) (hg : wr.grownBy w' row) (hr : ∀ k, row = some k → S < k) : RFol w w' N S c bad sw st := by
  have h1 := h.lt
  have h2 := h.s.lt
  exact ⟨h.below.grown hg (by omega) (fun k hk => by have := hr k hk; omega), h.nw, (hg.block N (by omega) (fun e => by have := hr N e.symm; omega)).trans h.box, h.s.kept hg (fun e => by have := hr S e.symm; omega), h.lt⟩
theorem RFol.more {w wr w' : World} {N S : Nat} {c : List Int} {bad : Bool} {sw st : Value} (h : RFol w wr N S c bad sw st) (hb : Below wr.heap.size wr w') : RFol w w' N S c bad sw st := h.kept (grown_below hb) (fun k hk => by cases hk)
theorem RFol.cell0 {w wr : World} {N S : Nat} {c : List Int} {bad : Bool} {sw st : Value} (h : RFol w wr N S c bad sw st) : wr.cell? ⟨N, 0, none⟩ = some sw := by simp [World.cell?, h.box]
theorem RFol.cell1 {w wr : World} {N S : Nat} {c : List Int} {bad : Bool} {sw st : Value} (h : RFol w wr N S c bad sw st) : wr.cell? ⟨N, 1, none⟩ = some st := by simp [World.cell?, h.box]
theorem RFol.has {w wr : World} {N S : Nat} {c : List Int} {bad : Bool} {sw st : Value} {p : Lt} (h : RFol w wr N S c bad sw st) (h0 : PHas w sw st p) : PHas wr sw st p := h0.below (by rw [h.nw]; exact h.below)
theorem RFol.reads {w wr : World} {N S : Nat} {c : List Int} {bad : Bool} {sw st tv : Value} {l : List Int} (h : RFol w wr N S c bad sw st) (h0 : Reads w tv (ints l)) : Reads wr tv (ints l) := h0.same fun k _ hk => h.below.block k (by rw [← h.nw]; exact hk)

theorem cell_new1 (w : World) (u : Value) (t : TypeId) : (w.alloc (.cells #[u] t (0, 0))).drew.cell? ⟨w.heap.size, 0, none⟩ = some u := by
  have h : (w.alloc (.cells #[u] t (0, 0))).drew.heap[w.heap.size]? = some (.cells #[u] t (0, 0)) := heap_alloc_new _ _
  simp only [World.cell?, h]
  rfl
theorem cell_new0 (w : World) (u : Value) (t : TypeId) : ∀ j x, [u][j]? = some x → (w.alloc (.cells #[u] t (0, 0))).cell? ((⟨w.heap.size, 0, none⟩ : Addr).add j) = some x := by
  intro j x hj
  cases j with
  | zero =>
    simp only [List.getElem?_cons_zero, Option.some.injEq] at hj
    subst hj
    rw [Addr.add_lit]
    simp only [World.cell?, Nat.add_zero, heap_alloc_new]
    rfl
  | succ j => simp at hj
theorem OwnS.drew {w : World} {base size : Nat} {v : Value} {n : Nat} {xs : List Value} (h : OwnS w base size v n xs) : OwnS w.drew base size v n xs := h.kept (grown_drew (World.grownBy.refl _ none)) (ownS_fresh h (fun k hk => by cases hk))
theorem OwnG.low {w w' : World} {base : Nat} {v : Value} {vs : List Value} {ls : List (List Int)} {row : Option Nat} (h : OwnG w base v vs ls) (hg : w.grownBy w' row) (hr : ∀ k, row = some k → k < base) : OwnG w' base v vs ls := by
  have key : ∀ (x : Value) n xs, OwnS w base 1 x n xs → OwnS w' base 1 x n xs := fun x n xs hx => hx.kept hg (by
    cases hb : x.ownBlock with
    | none => exact .inl rfl
    | some k =>
      refine .inr fun e => ?_
      have h1 := (hx.blk k hb).1
      have h2 := hr k e.symm
      omega)
  exact ⟨key _ _ _ h.own, fun k u l hu hl => ⟨key _ _ _ (h.rows k u l hu hl).1, (h.rows k u l hu hl).2⟩⟩
theorem grown_setRow (w : World) (g' : Nat) (cs : Array Value) : w.grownBy (w.setRow g' cs) (some g') :=
  ⟨rfl, rfl, rfl, by simp [World.setRow], fun k _ hne => setRow_other _ _ _ _ (fun e => hne (by rw [e]))⟩
theorem RFol.put {w wr : World} {N S : Nat} {c c' : List Int} {bad bad' : Bool} {sw st : Value} (h : RFol w wr N S c bad sw st) (hc : c'.length = 28) : RFol w (wr.setRow S (stA c' bad')) N S c' bad' sw st := by
  have h1 := h.lt
  exact ⟨below_setRow h.below _ (by omega), h.nw, (setRow_other _ _ _ _ (by omega)).trans h.box, ⟨hc, heap_setRow h.s.blk⟩, h.lt⟩

set_option maxRecDepth 100000 in
set_option maxHeartbeats 4000000 in
theorem follow_walk (sw st tv : Value) (p : Lt) (l : List Int) (w : World) (h : PHas w sw st p) (ht : Reads w tv (ints l)) (hl : l.length ≤ 1000000) :
    Calls Try.prog 21 #[.agg #[sw, st], tv] w fun e w' => ∃ v vs, e = .returned (.tuple #[v, .bool (followF p l).2.1, .int .i64 (followF p l).2.2]) ∧ OwnG w' w.heap.size v vs (followF p l).1 ∧ Below w.heap.size w w' := by
  obtain ⟨at0, ct, rfl⟩ := h.threads.shape
  obtain ⟨aw, cw, rfl⟩ := h.words_shape
  obtain ⟨al, cl, rfl⟩ := ints_shape ht
  have H0 := Lib.hid h
  have HT := Lib.hid ht
  clear h ht
  go_enter Try.func21, Try.ntmps21
  go_wp2_with fail
  have hB1 : Below w.heap.size w (w.alloc (.cells #[.slice aw p.words.length cw, .slice at0 p.threads.length ct] 25 (0, 0))) := (Below.refl _ _).alloc (Nat.le_refl _) _
  refine (check_walk _ _ p _ (H0.out.below hB1)).mono ?_
  rintro e w1 ⟨rfl, hb1⟩
  have hb01 : Below w.heap.size w w1 := hB1.trans (hb1.mono (by simp))
  have hbox : w1.heap[w.heap.size]? = some (.cells #[.slice aw p.words.length cw, .slice at0 p.threads.length ct] 25 (0, 0)) := (hb1.block _ (by simp)).trans (heap_alloc_new _ _)
  have hlt1 : w.heap.size < w1.heap.size := by rw [Array.getElem?_eq_some_iff] at hbox; exact hbox.1
  clear hb1 hB1
  unfold chkE
  by_cases hp : check p = true
  · rw [if_pos hp]
    obtain ⟨⟨_, h8, _, h4⟩, _⟩ := check_facts hp
    by_cases hl2 : l.length ≤ 20000
    · have hF : followF p l = ((turns p l).2, (turns p l).1.bad, 0) := by unfold followF; rw [if_pos ⟨hp, hl2⟩]
      have HF := Lib.hid hF
      clear hF
      have hx0 : w1.cell? ⟨w.heap.size, 0, none⟩ = some (.slice aw p.words.length cw) := by simp [World.cell?, hbox]
      have hx1 : w1.cell? ⟨w.heap.size, 1, none⟩ = some (.slice at0 p.threads.length ct) := by simp [World.cell?, hbox]
      generalize hN : w.heap.size = N at hb01 hbox hlt1 hx0 hx1 ⊢
      go_wp2_with fail
      refine (begins_walk _ _ p _ (H0.out.below (by rw [hN]; exact hb01)) h8).mono ?_
      rintro e w2 ⟨rfl, hb2⟩
      clear hx0 hx1
      have hR : RFol w ((w2.alloc (.cells #[Value.int .i64 0, Value.int .i64 0, Value.int .i64 0, Value.int .i64 0, Value.int .i64 0, Value.int .i64 0, Value.int .i64 0, Value.int .i64 0, Value.int .i64 0, Value.int .i64 0, Value.int .i64 0, Value.int .i64 0, Value.int .i64 0, Value.int .i64 0, Value.int .i64 0, Value.int .i64 0, Value.int .i64 0, Value.int .i64 0, Value.int .i64 0, Value.int .i64 0, Value.int .i64 0, Value.int .i64 0, Value.int .i64 0, Value.int .i64 0, Value.int .i64 0, Value.int .i64 0, Value.int .i64 0, Value.int .i64 0, Value.bool false] 70 (0, 0))).setRow w2.heap.size (stA (first p).c false)) N w2.heap.size (first p).c false (.slice aw p.words.length cw) (.slice at0 p.threads.length ct) := by
        have hs2 := hb2.size
        refine ⟨below_setRow ((hb01.trans (hb2.mono (by omega))).alloc (by omega) _) _ (by omega), hN, ?_, ⟨first_len h8, heap_setRow (heap_alloc_new _ _)⟩, by omega⟩
        rw [setRow_other _ _ _ _ (by omega), Below.heap_alloc _ _ _ (by omega)]
        exact (hb2.block N hlt1).trans hbox
      clear hb01 hbox hlt1 hb2
      have hone := stA_one (first p).c false
      have hs := stA_size (first_len h8) false
      generalize hA : stA (first p).c false = A at hR hone hs ⊢
      have HA := Lib.hid hA
      clear hA
      go_wp2_with (refine wpList_store_row rfl 70 (.tmp 9) (.tmp 25) rfl w2.heap.size A rfl rfl 70 _ (heap_alloc_new _ _) (by rw [hs]; exact info_state) (by rw [hs]; rfl) hone ?_)
      generalize hW : (w2.alloc (.cells #[Value.int .i64 0, Value.int .i64 0, Value.int .i64 0, Value.int .i64 0, Value.int .i64 0, Value.int .i64 0, Value.int .i64 0, Value.int .i64 0, Value.int .i64 0, Value.int .i64 0, Value.int .i64 0, Value.int .i64 0, Value.int .i64 0, Value.int .i64 0, Value.int .i64 0, Value.int .i64 0, Value.int .i64 0, Value.int .i64 0, Value.int .i64 0, Value.int .i64 0, Value.int .i64 0, Value.int .i64 0, Value.int .i64 0, Value.int .i64 0, Value.int .i64 0, Value.int .i64 0, Value.int .i64 0, Value.int .i64 0, Value.bool false] 70)).setRow w2.heap.size A = w3 at hR ⊢
      clear hW
      have hS1 : w2.heap.size + 1 ≤ w3.heap.size := hR.s.lt
      generalize w2.heap.size = S at hR hS1 ⊢
      have HN := Lib.hid hN
      clear hN hone hs HA
      have hi : Try.prog.info? 3 = some Try.t3 := by kernel_rfl
      have hj : Try.prog.info? 22 = some Try.t22 := by kernel_rfl
      have HI := Lib.hid hi
      have HJ := Lib.hid hj
      clear hi hj
      go_loopw [8, 28] (fun ov iv wr => ∃ (i : Nat) (vs : List Value), i ≤ l.length ∧ iv = .int .i64 i ∧ RFol w wr N S (turns p (l.take i)).1.c (turns p (l.take i)).1.bad (.slice aw p.words.length cw) (.slice at0 p.threads.length ct) ∧ OwnG wr (S + 1) ov vs (turns p (l.take i)).2 ∧ S + 1 ≤ wr.heap.size) (fun _ iv _ => l.length - (intOf iv).toNat)
      case atStart => exact ⟨0, [], by omega, rfl, hR, OwnG.nil _ _, hS1⟩
      case round =>
        clear hR hS1
        obtain ⟨i, vs, hil, rfl, hR, hG, hSs⟩ := hrel
        by_cases hlt : i < l.length
        · have hwf := turns_wf hp (l.take i)
          have htn := turns_succ p l i hlt
          have hsh := turns_short p (l.take (i + 1))
          generalize turns p (l.take i) = x at hR hG hwf htn
          obtain ⟨s, ls⟩ := x
          obtain ⟨tb, t0, tc, hv, htb⟩ := ints_form (hR.reads HT.out) (by omega)
          cases hv
          have hti := ints_at (hR.reads HT.out) hlt
          generalize hki : l.getD i 0 = ki at hti
          have hki' : g l i = ki := hki
          rw [hki'] at htn
          clear hki hki'
          have hx0 := hR.cell0
          have hx1 := hR.cell1
          have hSb := hR.s.blk
          have hs0 := stA_size hwf.len s.bad
          have HR := Lib.hid hR
          have HG := Lib.hid hG
          have HW := Lib.hid hwf
          have HTN := Lib.hid htn
          clear hR hG hwf htn
          have HX := Lib.hid (show wr.heap[S]? = some (.cells (stA s.c s.bad) 70 (0, 0)) from hSb)
          clear hSb
          generalize hA : stA s.c s.bad = A0 at hs0
          have HA0 := Lib.hid hA
          clear hA
          go_wp2_with (refine wpList_load_row rfl 70 (.tmp 9) rfl S rfl 70 A0 (0, 0) _ (by rw [← HA0.out]; exact HX.out) Try.underlying70 rfl (by rw [hs0]; exact info_state) ?_)
          rw [← HA0.out]
          refine (step_walk _ _ s ki p wr (HR.out.has H0.out) hp HW.out).mono ?_
          rintro e w4 ⟨rfl, hb4⟩
          have hwf1 := stepI_wf (k := ki) hp HW.out
          have hb5 : Below wr.heap.size wr ((w4.alloc (.cells #[Value.int .i64 0, Value.int .i64 0, Value.int .i64 0, Value.int .i64 0, Value.int .i64 0, Value.int .i64 0, Value.int .i64 0, Value.int .i64 0, Value.int .i64 0, Value.int .i64 0, Value.int .i64 0, Value.int .i64 0, Value.int .i64 0, Value.int .i64 0, Value.int .i64 0, Value.int .i64 0, Value.int .i64 0, Value.int .i64 0, Value.int .i64 0, Value.int .i64 0, Value.int .i64 0, Value.int .i64 0, Value.int .i64 0, Value.int .i64 0, Value.int .i64 0, Value.int .i64 0, Value.int .i64 0, Value.int .i64 0, Value.bool false] 70 (0, 0))).setRow w4.heap.size (stA ((stepI p s ki).getD s).c ((stepI p s ki).getD s).bad)) := by
            have := hb4.size
            exact below_setRow (hb4.alloc (by omega) _) _ (by omega)
          have hx5 : ((w4.alloc (.cells #[Value.int .i64 0, Value.int .i64 0, Value.int .i64 0, Value.int .i64 0, Value.int .i64 0, Value.int .i64 0, Value.int .i64 0, Value.int .i64 0, Value.int .i64 0, Value.int .i64 0, Value.int .i64 0, Value.int .i64 0, Value.int .i64 0, Value.int .i64 0, Value.int .i64 0, Value.int .i64 0, Value.int .i64 0, Value.int .i64 0, Value.int .i64 0, Value.int .i64 0, Value.int .i64 0, Value.int .i64 0, Value.int .i64 0, Value.int .i64 0, Value.int .i64 0, Value.int .i64 0, Value.int .i64 0, Value.int .i64 0, Value.bool false] 70 (0, 0))).setRow w4.heap.size (stA ((stepI p s ki).getD s).c ((stepI p s ki).getD s).bad)).heap[w4.heap.size]? = some (.cells (stA ((stepI p s ki).getD s).c ((stepI p s ki).getD s).bad) 70 (0, 0)) := heap_setRow (heap_alloc_new _ _)
          have hs1 := stA_size hwf1.len ((stepI p s ki).getD s).bad
          have hone1 := stA_one ((stepI p s ki).getD s).c ((stepI p s ki).getD s).bad
          generalize hA : stA ((stepI p s ki).getD s).c ((stepI p s ki).getD s).bad = A1 at hs1 hone1 hb5 hx5 ⊢
          have HA1 := Lib.hid hA
          clear hA hx0 hx1 hti
          cases ho : stepI p s ki with
          | none =>
            have ht1 : turns p (l.take (i + 1)) = (s, ls) := by rw [HTN.out]; unfold turn; rw [ho]
            have HT1 := Lib.hid ht1
            clear ht1 ho hwf1 hsh
            go_wp2_with (refine wpList_store_row rfl 70 (.tmp 12) (.tmp 37) rfl w4.heap.size A1 rfl rfl 70 _ (heap_alloc_new _ _) (by rw [hs1]; exact info_state) (by rw [hs1]; rfl) hone1 ?_)
            go_roundw
            case rel => exact ⟨i + 1, vs, by omega, by go_num, by rw [HT1.out]; exact HR.out.more hb5, by rw [HT1.out]; exact HG.out.below hb5, Nat.le_trans hSs hb5.size⟩
            case measure => simp [intOf]; omega
          | some s' =>
            have ht1 : turns p (l.take (i + 1)) = (s', ls ++ [full p s']) := by rw [HTN.out]; unfold turn; rw [ho]
            rw [ht1] at hsh
            have hsh' : ls.length + 1 ≤ 20000 := by simp at hsh; omega
            have HT1 := Lib.hid ht1
            rw [ho] at hwf1 HA1
            have hR5 := HR.out.more hb5
            have hG5 := HG.out.below hb5
            clear ht1 ho hsh HR HG HTN
            go_upto_region 14 with (first
              | refine wpList_store_row rfl 70 (.tmp 12) (.tmp 37) rfl w4.heap.size A1 rfl rfl 70 _ (heap_alloc_new _ _) (by rw [hs1]; exact info_state) (by rw [hs1]; rfl) hone1 ?_
              | refine wpList_load_row rfl 70 (.tmp 12) rfl w4.heap.size rfl 70 A1 (0, 0) _ hx5 Try.underlying70 rfl (by rw [hs1]; exact info_state) ?_
              | refine wpList_store_row rfl 70 (.tmp 9) (.tmp 41) rfl S A1 rfl rfl 70 _ hR5.s.blk (by rw [hs1]; exact info_state) (by rw [hs1]; simpa [ints] using hR5.s.len) hone1 ?_)
            have hR6 : RFol w (((w4.alloc (.cells #[Value.int .i64 0, Value.int .i64 0, Value.int .i64 0, Value.int .i64 0, Value.int .i64 0, Value.int .i64 0, Value.int .i64 0, Value.int .i64 0, Value.int .i64 0, Value.int .i64 0, Value.int .i64 0, Value.int .i64 0, Value.int .i64 0, Value.int .i64 0, Value.int .i64 0, Value.int .i64 0, Value.int .i64 0, Value.int .i64 0, Value.int .i64 0, Value.int .i64 0, Value.int .i64 0, Value.int .i64 0, Value.int .i64 0, Value.int .i64 0, Value.int .i64 0, Value.int .i64 0, Value.int .i64 0, Value.int .i64 0, Value.bool false] 70 (0, 0))).setRow w4.heap.size A1).setRow S A1) N S s'.c s'.bad (.slice aw p.words.length cw) (.slice at0 p.threads.length ct) := by rw [← HA1.out]; rw [← HA1.out] at hR5; exact hR5.put hwf1.len
            have hG6 := hG5.low (grown_setRow _ S A1) (fun k hk => by cases hk; omega)
            have hSs6 : S + 1 ≤ (((w4.alloc (.cells #[Value.int .i64 0, Value.int .i64 0, Value.int .i64 0, Value.int .i64 0, Value.int .i64 0, Value.int .i64 0, Value.int .i64 0, Value.int .i64 0, Value.int .i64 0, Value.int .i64 0, Value.int .i64 0, Value.int .i64 0, Value.int .i64 0, Value.int .i64 0, Value.int .i64 0, Value.int .i64 0, Value.int .i64 0, Value.int .i64 0, Value.int .i64 0, Value.int .i64 0, Value.int .i64 0, Value.int .i64 0, Value.int .i64 0, Value.int .i64 0, Value.int .i64 0, Value.int .i64 0, Value.int .i64 0, Value.int .i64 0, Value.bool false] 70 (0, 0))).setRow w4.heap.size A1).setRow S A1).heap.size := hR6.s.lt
            generalize ((w4.alloc (.cells #[Value.int .i64 0, Value.int .i64 0, Value.int .i64 0, Value.int .i64 0, Value.int .i64 0, Value.int .i64 0, Value.int .i64 0, Value.int .i64 0, Value.int .i64 0, Value.int .i64 0, Value.int .i64 0, Value.int .i64 0, Value.int .i64 0, Value.int .i64 0, Value.int .i64 0, Value.int .i64 0, Value.int .i64 0, Value.int .i64 0, Value.int .i64 0, Value.int .i64 0, Value.int .i64 0, Value.int .i64 0, Value.int .i64 0, Value.int .i64 0, Value.int .i64 0, Value.int .i64 0, Value.int .i64 0, Value.int .i64 0, Value.bool false] 70)).setRow w4.heap.size A1).setRow S A1 = w6 at hR6 hG6 hSs6 ⊢
            generalize w4.heap.size = g4
            clear hR5 hG5 hb5 hx5 hb4 HA1 hs1 hone1 HW HX HA0 hs0
            have hx0 := hR6.cell0
            have hx1 := hR6.cell1
            have hlen : (s'.c.take p.words.length).length = p.words.length := by have := hwf1.len; simp only [Option.getD_some] at this; rw [List.length_take]; omega
            have hcl := clone_walk S 0 8 (s'.c.take p.words.length) w6 (fun j u hj => regs_cells hR6.s (o := 0) (n := p.words.length) (by omega) j u (by simpa using hj)) (by omega)
            rw [hlen] at hcl
            have HC := Lib.hid hcl
            clear hcl
            have h8i : (p.words.length : Int) ≤ 8 := by omega
            go_wp2_with fail
            refine HC.out.mono ?_
            rintro e w7 ⟨rv, rfl, hrv, hb7⟩
            clear hx0 hx1 HC
            have hO7 : OwnS w7 w6.heap.size 1 rv (fullTo p s'.c 0).length (ints (fullTo p s'.c 0)) := by
              have e0 : fullTo p s'.c 0 = s'.c.take p.words.length := by simp [fullTo]
              rw [e0, hlen]; exact hrv
            have hx1 := (hR6.more hb7).cell1
            have HR6 := Lib.hid hR6
            have HG6 := Lib.hid hG6
            clear hR6 hG6 hrv
            go_wp2_with fail
            clear hx1
            go_loopw [14, 51] (fun rv kv wx => ∃ k : Nat, k ≤ p.threads.length ∧ kv = .int .i64 k ∧ Below w6.heap.size w6 wx ∧ OwnS wx w6.heap.size 1 rv (fullTo p s'.c k).length (ints (fullTo p s'.c k))) (fun _ kv _ => p.threads.length - (intOf kv).toNat)
            case atStart => exact ⟨0, by omega, rfl, hb7, hO7⟩
            case round =>
              clear hb7 hO7
              obtain ⟨k, hk, rfl, hb, hO⟩ := hrel
              have hBs := hb.size
              have hlk := fullTo_len (p := p) (c := s'.c) hwf1.len h8 (k := k) (by omega)
              by_cases hkl : k < p.threads.length
              · have hR := HR6.out.more hb
                have hk4 : (k : Int) < 4 := by omega
                have hnl : S < wr.heap.size := hR.s.lt
                have hq := hR.s.at' (i := 8 + k) (by omega)
                have hregs := regs_cells hR.s (o := 12 + k * 4) (n := 4) (by omega)
                have hr4 : (ints ((s'.c.drop (12 + k * 4)).take 4)).length = 4 := by have := hwf1.len; simp only [Option.getD_some] at this; simp [ints]; omega
                have hB : S < w6.heap.size := HR6.out.s.lt
                obtain ⟨atk, hatk⟩ : ∃ v, g s'.c (8 + k) = v := ⟨_, rfl⟩
                rw [hatk] at hq
                have HATK := Lib.hid hatk
                clear hatk
                have hREG : ∀ w8, (wr.alloc (.cells #[.int .i64 atk] 3 (0, 0))).drew.grownBy w8 u14.ownBlock → Reads w8 (.slice (some ⟨S, 12 + k * 4, none⟩) 4 4) (ints ((s'.c.drop (12 + k * 4)).take 4)) := fun w8 hg8 => by
                  refine .inr ⟨fun e => by rw [e] at hr4; simp at hr4, S, 12 + k * 4, 4, by rw [hr4], by omega, by unfold maxLen; omega, fun j u hj => ?_⟩
                  have hh := hregs j u hj
                  refine (World.cell?_of_block (a := ⟨S, 12 + k * 4 + j, none⟩) (w := wr) ?_).trans hh
                  refine (hg8.block S (by simp; omega) ?_).trans (Below.heap_alloc _ _ _ hnl)
                  intro e
                  have := (hO.blk S e.symm).1
                  omega
                clear hR hregs
                have hRd : Reads (wr.alloc (.cells #[.int .i64 atk] 3 (0, 0))).drew (.slice (some ⟨wr.heap.size, 0, none⟩) 1 1) (ints [atk]) := reads_new1 (cell_new1 wr _ _)
                have hOd : OwnS (wr.alloc (.cells #[.int .i64 atk] 3 (0, 0))).drew w6.heap.size 1 u14 (fullTo p s'.c k).length (ints (fullTo p s'.c k)) := OwnS.drew (OwnS.alloc hO _)
                have n1 : (fullTo p s'.c k).length + (ints [atk]).length ≤ maxLen := by simp [ints]; unfold maxLen; omega
                have n2 : ((fullTo p s'.c k).length + (ints [atk]).length) * 8 ≤ 140737488355328 := by simp [ints]; omega
                have n3 : (fullTo p s'.c k).length + (ints [atk]).length + (ints ((s'.c.drop (12 + k * 4)).take 4)).length ≤ maxLen := by rw [hr4]; simp [ints]; unfold maxLen; omega
                have n4 : ((fullTo p s'.c k).length + (ints [atk]).length + (ints ((s'.c.drop (12 + k * 4)).take 4)).length) * 8 ≤ 140737488355328 := by rw [hr4]; simp [ints]; omega
                have n5 : w6.heap.size ≤ ((wr.alloc (.cells #[.int .i64 atk] 3 (0, 0))).drew).heap.size := by simp; omega
                go_wp2_with fail
                go_region_law (first
                  | (refine step_append_reads rfl (.tmp 54) (.tmp 59) 22 rfl w6.heap.size 3 Try.t3 (.int .i64 0) 8 Try.underlying22 HI.out rfl rfl rfl rfl u14 (fullTo p s'.c k).length (ints (fullTo p s'.c k)) rfl hOd (.slice (some ⟨wr.heap.size, 0, none⟩) 1 1) (ints [atk]) rfl hRd (ints_one _) n1 n2 n5 ?_; intro v1 w8 hv1 hg1 hob1; have hr8 := hREG _ hg1; have n6 := Nat.le_trans n5 hg1.size)
                  | (refine step_append_reads rfl (.tmp 60) (.tmp 64) 22 rfl w6.heap.size 3 Try.t3 (.int .i64 0) 8 Try.underlying22 HI.out rfl rfl rfl rfl v1 ((fullTo p s'.c k).length + (ints [atk]).length) (ints (fullTo p s'.c k) ++ ints [atk]) rfl hv1 (.slice (some ⟨S, 12 + k * 4, none⟩) 4 4) (ints ((s'.c.drop (12 + k * 4)).take 4)) rfl hr8 (ints_one _) n3 n4 n6 ?_; intro v2 w9 hv2 hg2 hob2))
                go_wp2
                go_roundw
                case rel =>
                  have e1 : ints (fullTo p s'.c (k + 1)) = ints (fullTo p s'.c k) ++ ints [atk] ++ ints ((s'.c.drop (12 + k * 4)).take 4) := by
                    rw [fullTo_succ, HATK.out, Nat.mul_comm 4 k]; simp [ints]
                  have e2 : (fullTo p s'.c (k + 1)).length = (fullTo p s'.c k).length + (ints [atk]).length + (ints ((s'.c.drop (12 + k * 4)).take 4)).length := by
                    have e3 : ∀ l : List Int, (ints l).length = l.length := fun l => by simp [ints]
                    rw [← e3 (fullTo p s'.c (k + 1)), ← e3 (fullTo p s'.c k), e1, List.length_append, List.length_append]
                  refine ⟨k + 1, by omega, by go_num, ?_, by rw [e1, e2]; exact hv2⟩
                  exact ((((hb.alloc hBs _).drew).grown hg1 (by simp; omega) (fun j hj => (hO.blk j hj).1)).grown hg2 n6 (fun j hj => (hv1.blk j hj).1))
                case measure => simp [intOf]; omega
              · obtain rfl : k = p.threads.length := by omega
                obtain ⟨ra, rc, hrv⟩ := ints_shape hO.reads
                generalize hm : (fullTo p s'.c p.threads.length).length = m at hO hrv
                have HM := Lib.hid hm
                clear hm hlk
                subst hrv
                have hG := HG6.out.below hb
                have hown := OwnS.alloc hG.own (.cells #[.slice ra m rc] 22 (0, 0))
                have hone := OwnS.one hO
                have hcell := cell_new0 wr (.slice ra m rc) 22
                have n1 : ls.length + 1 ≤ maxLen := by unfold maxLen; omega
                have n2 : (ls.length + 1) * 24 ≤ 140737488355328 := by omega
                have n3 : S + 1 ≤ (wr.alloc (.cells #[.slice ra m rc] 22 (0, 0))).heap.size := by simp; omega
                go_wp2_with (at_builtin; (refine wpList_append_ownS _ rfl (.tmp 67) (.tmp 69) 38 rfl (S + 1) 22 Try.t22 (.slice none 0 0) 1 24 Try.underlying38 HJ.out rfl rfl rfl rfl (by decide) u8 ls.length vs rfl hown ⟨wr.heap.size, 0, none⟩ 1 1 [.slice ra m rc] rfl rfl hcell (by simpa using hone) n1 n2 n3 ?_); intro v3 w8 hv3 hg3 hob3)
                go_roundw
                case rel =>
                  have hal : Below wr.heap.size wr (wr.alloc (.cells #[.slice ra m rc] 22 (0, 0))) := (Below.refl _ _).alloc (Nat.le_refl _) _
                  have hS8 : S + 1 ≤ w8.heap.size := Nat.le_trans n3 hg3.size
                  refine ⟨i + 1, vs ++ [.slice ra m rc], by omega, by go_num, ?_, ?_, hS8⟩
                  · rw [HT1.out]
                    exact ((HR6.out.more hb).more hal).kept hg3 (fun j hj => by have := (hG.own.blk j hj).1; omega)
                  · rw [HT1.out]
                    refine (hG.below hal).push (by rw [full_to, HM.out]; exact OwnS.alloc (ownS_base hO hSs6) _) ?_ hv3 hg3 hob3
                    cases hub : (Value.slice ra m rc).ownBlock with
                    | none => exact .inl rfl
                    | some j =>
                      refine .inr fun e => ?_
                      have q1 := (hO.blk j hub).1
                      have q2 := (HG6.out.own.blk j e.symm).2
                      omega
                case measure => simp [intOf]; omega
        · obtain rfl : i = l.length := by omega
          have hbc := hR.s.badc
          rw [List.take_length] at hR hG hbc
          go_wp2_with fail
          go_region
          go_wp2
          go_returns
          exact ⟨_, _, by rw [HF.out]; rfl, by rw [HF.out, HN.out]; exact OwnG.base (hG.kept (grown_drew (World.grownBy.refl _ none)) (fun k hk => by cases hk)) (by have := hR.lt; omega), by rw [HN.out]; exact hR.below.drew⟩
    · have hF : followF p l = ([], false, 270) := by unfold followF; rw [if_neg (fun hh => hl2 hh.2)]
      have HF := Lib.hid hF
      clear hF
      go_wp2
      go_returns
      exact ⟨_, [], by rw [HF.out]; rfl, by rw [HF.out]; exact OwnG.nil _ _, hb01⟩
  · have hF : followF p l = ([], false, 270) := by unfold followF; rw [if_neg (fun hh => hp hh.1)]
    have HF := Lib.hid hF
    clear hF
    rw [if_neg hp]
    go_wp2
    go_returns
    exact ⟨_, [], by rw [HF.out]; rfl, by rw [HF.out]; exact OwnG.nil _ _, hb01⟩
end Go.Proofs.Ytmpgjnindbklaaa
