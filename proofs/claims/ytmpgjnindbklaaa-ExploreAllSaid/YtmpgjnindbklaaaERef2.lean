import Derived.Test.YtmpgjnindbklaaaEHas
namespace Go.Proofs.Ytmpgjnindbklaaa
open Go.RowKit BA Ex

theorem below_alloc2 {w w1 w' : World} {o : Obj} (hw : w1 = w.alloc o) (h : Below w1.heap.size w1 w') : Below w.heap.size w w' := by
  subst hw
  exact ((Below.refl _ _).alloc (Nat.le_refl _) _).trans (h.mono (by simp))

/-- What the rounds over threads keep. -/
structure RChk (w wr : World) (N : Nat) (sw st : Value) (p : Lt) : Prop where
  below : Below N w wr
  box : wr.heap[N]? = some (.cells #[sw, st] 25 (0, 0))
  has : PHas wr sw st p

theorem RChk.more {w wr w' : World} {N : Nat} {sw st : Value} {p : Lt} (h : RChk w wr N sw st p) (hb : Below wr.heap.size wr w') : RChk w w' N sw st p := by
  have hN : N < wr.heap.size := by
    have := h.box
    rw [Array.getElem?_eq_some_iff] at this
    exact this.1
  exact ⟨h.below.trans (hb.mono (by omega)), (hb.block N hN).trans h.box, h.has.below hb⟩
theorem RChk.cell0 {w wr : World} {N : Nat} {sw st : Value} {p : Lt} (h : RChk w wr N sw st p) : wr.cell? ⟨N, 0, none⟩ = some sw := by simp [World.cell?, h.box]
theorem RChk.cell1 {w wr : World} {N : Nat} {sw st : Value} {p : Lt} (h : RChk w wr N sw st p) : wr.cell? ⟨N, 1, none⟩ = some st := by simp [World.cell?, h.box]
theorem RChk.drew {w wr : World} {N : Nat} {sw st : Value} {p : Lt} (h : RChk w wr N sw st p) : RChk w wr.drew N sw st p := h.more ((Below.refl _ _).drew)
theorem RChk.begin {w : World} {sw st : Value} {p : Lt} (h : PHas w sw st p) : RChk w (w.alloc (.cells #[sw, st] 25 (0, 0))) w.heap.size sw st p :=
  ⟨(Below.refl _ _).alloc (Nat.le_refl _) _, heap_alloc_new _ _, h.below ((Below.refl _ _).alloc (Nat.le_refl _) _)⟩

set_option maxRecDepth 100000 in
set_option maxHeartbeats 4000000 in
theorem refCheck_walk (sw st : Value) (p : Lt) (w : World) (h : PHas w sw st p) :
    Calls Try.prog 14 #[.agg #[sw, st]] w fun e w' => e = .returned (.bool (check p)) ∧ Below w.heap.size w w' := by
  obtain ⟨aw, cw, rfl⟩ := h.words_shape
  obtain ⟨at0, ct, rfl⟩ := h.threads.shape
  have H := Lib.hid h
  clear h
  go_enter Try.func14, Try.ntmps14
  go_wp2_with fail
  all_goals (try (go_ret; refine ⟨congrArg (fun b => Ending.returned (.bool b)) ?_, (Below.refl _ _).alloc (Nat.le_refl _) _⟩; symm; rw [← Bool.not_eq_true, check_iff]; rintro ⟨⟨h1, h2, h3, h4⟩, _⟩; simp_all; done))
  all_goals (try (go_ret; refine ⟨congrArg (fun b => Ending.returned (.bool b)) ?_, (Below.refl _ _).alloc (Nat.le_refl _) _⟩; symm; rw [← Bool.not_eq_true, check_iff]; rintro ⟨⟨h1, h2, h3, h4⟩, _⟩; simp_all; omega))
  rename_i h1 h2 h3 h4 K0 hK0
  have HS : Hid (p.words.length ≠ 0 ∧ p.words.length ≤ 8 ∧ p.threads.length ≠ 0 ∧ p.threads.length ≤ 4) := Lib.hid (by
    refine ⟨?_, by omega, ?_, by omega⟩ <;> simp_all)
  clear h1 h2 h3 h4
  have hR := RChk.begin H.out
  clear H
  generalize hW : w.alloc (.cells #[Value.slice aw p.words.length cw, Value.slice at0 p.threads.length ct] 25 (0, 0)) = w0 at hR ⊢
  clear hW
  generalize hN : w.heap.size = N at hR ⊢
  have HN := Lib.hid hN
  clear hN
  go_loopw [3] (fun kv wr => ∃ k : Nat, k ≤ p.threads.length ∧ kv = .int .i64 k ∧ RChk w wr N (.slice aw p.words.length cw) (.slice at0 p.threads.length ct) p ∧ threadsTo p k) (fun kv _ => p.threads.length - (intOf kv).toNat)
  case atStart => exact ⟨0, by omega, rfl, hR, fun j hj => by omega⟩
  case round =>
    clear hR
    obtain ⟨k, hk, rfl, hR, hT⟩ := hrel
    have hb4 : p.threads.length ≤ 4 := HS.out.2.2.2
    have hc0 := hR.cell0
    have hc1 := hR.cell1
    by_cases hlt : k < p.threads.length
    · obtain ⟨b, o, c, tv, hv, hbl, hct, hL⟩ := hR.has.threads.at' hlt
      cases hv
      obtain ⟨al, cl, rfl⟩ := hL.shape
      generalize htt : p.threads.getD k [] = tt at hL hct
      have HTT := Lib.hid htt
      clear htt
      by_cases h40 : tt.length ≤ 40
      · go_wp2
        clear hct hc0 hc1
        generalize hW : wr = w1 at hR hL
        have HL := Lib.hid hL
        clear hL hW
        go_loopw [5] (fun iv wx => ∃ i : Nat, i ≤ tt.length ∧ iv = .int .i64 i ∧ RChk w wx N (.slice aw p.words.length cw) (.slice (some ⟨b, o, none⟩) p.threads.length ct) p ∧ Lines wx (.slice al tt.length cl) tt ∧ linesTo p tt i) (fun iv _ => tt.length - (intOf iv).toNat)
        case atStart => exact ⟨0, by omega, rfl, hR, HL.out, fun j hj => by omega⟩
        case round =>
          clear hR HL
          obtain ⟨i, hi, rfl, hR, hL, hI⟩ := hrel
          by_cases hil : i < tt.length
          · obtain ⟨b2, o2, c2, hv, hb2, q0, q1, q2, q3⟩ := hL.at' hil
            cases hv
            have hc0 := hR.cell0
            have hc1 := hR.cell1
            generalize hx : tt.getD i default = x at q0 q1 q2 q3
            have HX := Lib.hid hx
            clear hx
            go_wp2
            go_region_with (go_at_call 34; (refine (lineOK_walk _ _ _ tt.length _ x _).mono ?_; rintro e wz ⟨rfl, hbz⟩))
            all_goals (
              have hR' := hR.drew.more hbz
              have hL' := hL.same (w' := wz) (fun j hj => hbz.block j hj)
              clear hR hL q0 q1 q2 q3 hc0 hc1 hbz
              cases hok : lineOK p.words.length tt.length x with
              | false =>
                go_wp2
                go_ret
                refine ⟨congrArg (fun b => Ending.returned (.bool b)) ?_, (by rw [HN.out]; exact hR'.below)⟩
                have h1 := HTT.out
                subst h1
                have h2 := HX.out
                subst h2
                rw [check_line hlt hil hok]
              | true =>
                go_wp2
                go_roundw
                case rel =>
                  refine ⟨i + 1, by omega, by go_num, hR', hL', fun j hj => ?_⟩
                  by_cases hji : j = i
                  · subst hji; rw [HX.out]; exact hok
                  · exact hI j (by omega)
                case measure => simp [intOf]; omega)
          · obtain rfl : i = tt.length := by omega
            go_wp2
            go_roundw
            case rel =>
              refine ⟨k + 1, by omega, by go_num, hR, fun j hj => ?_⟩
              by_cases hjk : j = k
              · subst hjk; rw [HTT.out]; exact ⟨h40, hI⟩
              · exact hT j (by omega)
            case measure => simp [intOf]; omega
      · go_wp2
        go_ret
        refine ⟨congrArg (fun b => Ending.returned (.bool b)) ?_, (by rw [HN.out]; exact hR.below)⟩
        have h1 := HTT.out
        subst h1
        rw [check_long hlt (by omega)]
    · obtain rfl : k = p.threads.length := by omega
      go_wp2
      go_ret
      refine ⟨congrArg (fun b => Ending.returned (.bool b)) ?_, (by rw [HN.out]; exact hR.below)⟩
      exact ((check_iff p).2 ⟨HS.out, hT⟩).symm
end Go.Proofs.Ytmpgjnindbklaaa
