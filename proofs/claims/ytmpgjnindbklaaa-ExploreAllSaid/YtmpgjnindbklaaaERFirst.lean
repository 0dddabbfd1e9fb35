import Derived.Test.YtmpgjnindbklaaaEGrid
import Derived.Test.YtmpgjnindbklaaaEChk1
import Derived.Test.YtmpgjnindbklaaaERef2
import Derived.Handy
import Derived.Deep.RegionHeld3
import Derived.Test.YtmpgjnindbklaaaERow2
import Derived.Test.YtmpgjnindbklaaaEFollow
namespace Go.Proofs.Ytmpgjnindbklaaa
open Go.RowKit BA Ex

set_option maxRecDepth 100000 in
set_option maxHeartbeats 4000000 in
theorem refAt_walk (sw st : Value) (p : Lt) (k : Nat) (w : World) (h : PHas w sw st p) (h8 : p.words.length ≤ 8) (hk : k ≤ 4) :
    Calls Try.prog 50 #[.agg #[sw, st], .int .i64 k] w fun e w' => e = .returned (.int .i64 ((p.words.length + 5 * k : Nat) : Int)) ∧ Below w.heap.size w w' := by
  obtain ⟨aw, cw, rfl⟩ := h.words_shape
  clear h
  go_enter Try.func50, Try.ntmps50
  go_wp2
  go_ret
  exact ⟨congrArg (fun b => Ending.returned (.int .i64 b)) (by simp [go_sem]; try omega), (Below.refl _ _).alloc (Nat.le_refl _) _⟩

set_option maxRecDepth 100000 in
set_option maxHeartbeats 4000000 in
theorem refBad_walk (sv : Value) (xs : List Int) (w : World) (h : Reads w sv (ints xs)) (h0 : 0 < xs.length) (h1 : xs.length ≤ 1000) :
    Calls Try.prog 28 #[sv] w fun e w' => e = .returned (.bool (g xs (xs.length - 1) == 1)) ∧ w' = w := by
  obtain ⟨b, o, c, rfl, hb⟩ := ints_form h h0
  have hq := ints_at h (k := xs.length - 1) (by omega)
  have hq' : w.cell? ⟨b, o + (xs.length - 1), none⟩ = some (.int .i64 (g xs (xs.length - 1))) := hq
  generalize g xs (xs.length - 1) = v at hq' ⊢
  clear h hq
  obtain ⟨m, hm⟩ : ∃ m, xs.length = m + 1 := ⟨xs.length - 1, by omega⟩
  rw [hm] at hq' h1 ⊢
  simp only [Nat.add_sub_cancel] at hq'
  clear hm h0
  go_enter Try.func28, Try.ntmps28
  go_wp2
  go_ret
  exact ⟨rfl, rfl⟩
end Go.Proofs.Ytmpgjnindbklaaa
namespace Go.Proofs.Ytmpgjnindbklaaa
open Go.RowKit BA Ex

theorem cell_below {w w' : World} (h : Below w.heap.size w w') (a : Addr) {u : Value} (hc : w.cell? a = some u) : w'.cell? a = some u :=
  (World.cell?_of_block (w := w) (h.block a.block (World.block_lt_of_cell? w _ hc))).trans hc

set_option maxRecDepth 100000 in
set_option maxHeartbeats 4000000 in
theorem refOver_walk (sw st sv : Value) (p : Lt) (xs : List Int) (k : Nat) (w : World) (h : PHas w sw st p) (hs : Reads w sv (ints xs)) (h8 : p.words.length ≤ 8) (hk : k < p.threads.length) (hT : p.threads.length ≤ 4) (hx : p.words.length + 5 * k < xs.length) (hl : xs.length ≤ 1000) :
    Calls Try.prog 41 #[.agg #[sw, st], sv, .int .i64 k] w fun e w' => e = .returned (.bool (g xs (p.words.length + 5 * k) == ((p.threads.getD k []).length : Int))) ∧ Below w.heap.size w w' := by
  obtain ⟨aw, cw, rfl⟩ := h.words_shape
  obtain ⟨b, o, c, rfl, hb⟩ := ints_form hs (by omega)
  have hR := RChk.begin h
  have hs1 : Reads (w.alloc (.cells #[.slice aw p.words.length cw, st] 25 (0, 0))) (.slice (some ⟨b, o, none⟩) xs.length c) (ints xs) := hs.same fun j _ hj => hR.below.block j hj
  obtain ⟨tb, t0, tc, tv, rfl, htb, hct, hL⟩ := hR.has.threads.at' hk
  obtain ⟨al, cl, rfl⟩ := hL.shape
  clear h hs
  generalize hm : p.words.length + 5 * k = m at hx ⊢
  have HM := Lib.hid hm
  go_enter Try.func41, Try.ntmps41
  go_wp2
  generalize hW : w.alloc (.cells #[.slice aw p.words.length cw, .slice (some ⟨tb, t0, none⟩) p.threads.length tc] 25 (0, 0)) = w1 at hR hs1 hct hL htb ⊢
  clear hW
  generalize hN : w.heap.size = N at hR ⊢
  have HN := Lib.hid hN
  clear hN
  have q0 := hR.cell0
  have q1 := hR.cell1
  have q2 : w1.cell? ⟨b, o + m, none⟩ = some (.int .i64 (g xs m)) := ints_at hs1 hx
  generalize hv : g xs m = v at q2
  have HV := Lib.hid hv
  clear hv
  have HR := Lib.hid hR
  have HS := Lib.hid hs1
  generalize htt : p.threads.getD k [] = tt at hct hL
  have HTT := Lib.hid htt
  clear htt
  clear hR hs1 hL hm
  go_region_held3 (fun w' => w'.cell? ⟨N, 0, none⟩ = some (.slice aw p.words.length cw) ∧ w'.cell? ⟨N, 1, none⟩ = some (.slice (some ⟨tb, t0, none⟩) p.threads.length tc) ∧ w'.cell? ⟨b, o + m, none⟩ = some (.int .i64 v) ∧ w'.cell? ⟨tb, t0 + k, none⟩ = some (.slice al tt.length cl)) (go_keep)
    (first | (go_at_call 50; (refine (refAt_walk _ _ p k _ (HR.out.drew.has) h8 (by omega)).mono ?_; rintro e w2 ⟨rfl, hb2⟩; rw [HM.out]; have q0' : w2.cell? ⟨N, 0, none⟩ = some _ := (HR.out.drew.more hb2).cell0; have q1' : w2.cell? ⟨N, 1, none⟩ = some _ := (HR.out.drew.more hb2).cell1; have q2' : w2.cell? ⟨b, o + m, none⟩ = some _ := (cell_below hb2 _ q2); have q3' : w2.cell? ⟨tb, t0 + k, none⟩ = some _ := (cell_below hb2 _ hct))))
  go_wp2
  go_ret
  exact ⟨by rw [HV.out, HTT.out]; rfl, by rw [HN.out]; exact (HR.out.drew.more hb2).below⟩
end Go.Proofs.Ytmpgjnindbklaaa
namespace Go.Proofs.Ytmpgjnindbklaaa
open Go.RowKit BA Ex

theorem RChk.grown {w wr w' : World} {N : Nat} {sw st : Value} {p : Lt} {row : Option Nat} (h : RChk w wr N sw st p) (h0 : PHas w sw st p) (hN : w.heap.size = N) (hg : wr.grownBy w' row) (hr : ∀ k, row = some k → N < k) : RChk w w' N sw st p := by
  have hlt : N < wr.heap.size := by have := h.box; rw [Array.getElem?_eq_some_iff] at this; exact this.1
  have hb : Below N w w' := h.below.grown hg (by omega) (fun k hk => by have := hr k hk; omega)
  exact ⟨hb, (hg.block N hlt (fun e => by have := hr N e.symm; omega)).trans h.box, h0.below (by rw [hN]; exact hb)⟩

set_option maxRecDepth 100000 in
set_option maxHeartbeats 4000000 in
theorem refFirst_walk (sw st : Value) (p : Lt) (w : World) (h : PHas w sw st p) (h8 : p.words.length ≤ 8) (hT : p.threads.length ≤ 4) :
    Calls Try.prog 40 #[.agg #[sw, st]] w fun e w' => ∃ v, e = .returned v ∧ OwnS w' w.heap.size 1 v (p.words.length + (5 * p.threads.length + 1)) (ints (p.words ++ List.replicate (5 * p.threads.length + 1) 0)) ∧ Below w.heap.size w w' := by
  obtain ⟨aw, cw, rfl⟩ := h.words_shape
  obtain ⟨at0, ct, rfl⟩ := h.threads.shape
  have hR := RChk.begin h
  have H0 := Lib.hid h
  clear h
  have hi : Try.prog.info? 3 = some Try.t3 := by kernel_rfl
  have HI := Lib.hid hi
  clear hi
  go_enter Try.func40, Try.ntmps40
  go_upto_region 1 with fail
  generalize hW : w.alloc (.cells #[.slice aw p.words.length cw, .slice at0 p.threads.length ct] 25 (0, 0)) = w1 at hR ⊢
  clear hW
  generalize hN : w.heap.size = N at hR ⊢
  have HN := Lib.hid hN
  clear hN
  have q0 := hR.cell0
  have hw1 : N + 1 ≤ w1.heap.size := by have := hR.box; rw [Array.getElem?_eq_some_iff] at this; exact this.1
  have hwd := hR.has.words
  have n1 : 0 + (ints p.words).length ≤ maxLen := by simp [ints]; unfold maxLen; omega
  have n2 : (0 + (ints p.words).length) * 8 ≤ 140737488355328 := by simp [ints]; omega
  go_wp2_with (at_builtin; refine wpList_append_reads _ rfl _ _ 22 rfl (N + 1) 3 Try.t3 (.int .i64 0) 8 Try.underlying22 HI.out rfl rfl rfl rfl _ 0 [] rfl (OwnS.nil _ _ _) (.slice aw p.words.length cw) (ints p.words) rfl hwd (ints_one _) n1 n2 hw1 ?_; intro v2 w2 hv2 hg2 hob2)
  have hR2 := hR.grown H0.out HN.out hg2 (fun k hk => by cases hk)
  have hw2 : N + 1 ≤ w2.heap.size := Nat.le_trans hw1 hg2.size
  clear hR q0 hw1 hwd hg2 hob2
  have hO2 : OwnS w2 (N + 1) 1 v2 (p.words.length + 0) (ints (p.words ++ List.replicate 0 0)) := by simpa [ints] using hv2
  clear hv2 n1 n2
  go_loopw [3, 4] (fun ov iv wr => ∃ i : Nat, i ≤ 5 * p.threads.length + 1 ∧ iv = .int .i64 i ∧ RChk w wr N (.slice aw p.words.length cw) (.slice at0 p.threads.length ct) p ∧ OwnS wr (N + 1) 1 ov (p.words.length + i) (ints (p.words ++ List.replicate i 0)) ∧ N + 1 ≤ wr.heap.size) (fun _ iv _ => 5 * p.threads.length + 1 - (intOf iv).toNat)
  case atStart => exact ⟨0, by omega, rfl, hR2, hO2, hw2⟩
  case round =>
    clear hR2 hO2 hw2
    obtain ⟨i, hi, rfl, hR, hO, hsz⟩ := hrel
    have q1 := hR.cell1
    by_cases hlt : i < 5 * p.threads.length + 1
    · have hown := OwnS.alloc hO (.cells #[.int .i64 0] 3 (0, 0))
      have hcell := cell_new0 wr (.int .i64 0) 3
      have n1 : p.words.length + i + 1 ≤ maxLen := by unfold maxLen; omega
      have n2 : (p.words.length + i + 1) * 8 ≤ 140737488355328 := by omega
      have n3 : N + 1 ≤ (wr.alloc (.cells #[.int .i64 0] 3 (0, 0))).heap.size := by simp; omega
      have HR := Lib.hid hR
      clear hR
      go_wp2_with (at_builtin; refine wpList_append_ownS _ rfl (.tmp 17) (.tmp 18) 22 rfl (N + 1) 3 Try.t3 (.int .i64 0) 1 8 Try.underlying22 HI.out rfl rfl rfl rfl (by decide) u3 (p.words.length + i) (ints (p.words ++ List.replicate i 0)) rfl hown ⟨wr.heap.size, 0, none⟩ 1 1 [.int .i64 0] rfl rfl hcell (ints_one [0]) n1 n2 n3 ?_; intro v3 w8 hv3 hg3 hob3)
      go_roundw
      case rel =>
        have hal : Below wr.heap.size wr (wr.alloc (.cells #[.int .i64 0] 3 (0, 0))) := (Below.refl _ _).alloc (Nat.le_refl _) _
        refine ⟨i + 1, by omega, by go_num, (HR.out.more hal).grown H0.out HN.out hg3 (fun j hj => by have := (hO.blk j hj).1; omega), ?_, Nat.le_trans n3 hg3.size⟩
        have e1 : ints (p.words ++ List.replicate (i + 1) 0) = ints (p.words ++ List.replicate i 0) ++ [.int .i64 0] := by
          rw [List.replicate_succ', ← List.append_assoc]; simp [ints]
        rw [e1]
        exact hv3
      case measure => simp [intOf]; omega
    · obtain rfl : i = 5 * p.threads.length + 1 := by omega
      go_wp2
      go_ret
      exact ⟨_, rfl, ownS_base hO (by rw [HN.out]; omega), by rw [HN.out]; exact hR.below⟩
end Go.Proofs.Ytmpgjnindbklaaa
