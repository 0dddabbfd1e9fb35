import Derived.Test.YtmpgjnindbklaaaERAt
import Derived.Deep.RegionHeld3
namespace Go.Proofs.Ytmpgjnindbklaaa
open Go.RowKit BA Ex

theorem cell_below {w w' : World} (h : Below w.heap.size w w') (a : Addr) {u : Value} (hc : w.cell? a = some u) : w'.cell? a = some u :=
  (World.cell?_of_block (w := w) (h.block a.block (World.block_lt_of_cell? w _ hc))).trans hc

set_option maxRecDepth 100000 in
set_option maxHeartbeats 4000000 in
theorem refOver_walk (sw st sv : Value) (p : Lt) (xs : List Int) (k : Nat) (w : World) (h : PHas w sw st p) (hs : Reads w sv (ints xs)) (h8 : p.words.length ≤ 8) (hk : k < p.threads.length) (hT : p.threads.length ≤ 4) (hx : p.words.length + 5 * k < xs.length) (hl : xs.length ≤ 1000) :
    Calls Try.prog 41 #[.agg #[sw, st], sv, .int .i64 k] w fun e w' => e = .returned (.bool (g xs (p.words.length + 5 * k) == ((p.threads.getD k []).length : Int))) ∧ Below w.heap.size w w' := by
  obtain ⟨aw, cw, rfl⟩ := h.words_shape
  obtain ⟨b, o, c, rfl, hb⟩ := ints_form hs (by omega)
  have hR := RChk.begin h
  have hs1 : Reads (w.alloc (.cells #[.slice aw p.words.length cw, st] 25 (0, 0))) (.slice (some ⟨b, o, none⟩) xs.length c) (ints xs) := hs.same fun j _ hj => hR.below.block j hj
  obtain ⟨tb, t0, tc, tv, rfl, htb, hct, hL⟩ := hR.has.threads.at' hk
  obtain ⟨al, cl, rfl⟩ := hL.shape
  clear h hs
  generalize hm : p.words.length + 5 * k = m at hx ⊢
  have HM := Lib.hid hm
  go_enter Try.func41, Try.ntmps41
  go_wp2
  generalize hW : w.alloc (.cells #[.slice aw p.words.length cw, .slice (some ⟨tb, t0, none⟩) p.threads.length tc] 25 (0, 0)) = w1 at hR hs1 hct hL htb ⊢
  clear hW
  generalize hN : w.heap.size = N at hR ⊢
  have HN := Lib.hid hN
  clear hN
  have q0 := hR.cell0
  have q1 := hR.cell1
  have q2 : w1.cell? ⟨b, o + m, none⟩ = some (.int .i64 (g xs m)) := ints_at hs1 hx
  generalize hv : g xs m = v at q2
  have HV := Lib.hid hv
  clear hv
  have HR := Lib.hid hR
  have HS := Lib.hid hs1
  generalize htt : p.threads.getD k [] = tt at hct hL
  have HTT := Lib.hid htt
  clear htt
  clear hR hs1 hL hm
  go_region_held3 (fun w' => w'.cell? ⟨N, 0, none⟩ = some (.slice aw p.words.length cw) ∧ w'.cell? ⟨N, 1, none⟩ = some (.slice (some ⟨tb, t0, none⟩) p.threads.length tc) ∧ w'.cell? ⟨b, o + m, none⟩ = some (.int .i64 v) ∧ w'.cell? ⟨tb, t0 + k, none⟩ = some (.slice al tt.length cl)) (go_keep)
    (first | (go_at_call 50; (refine (refAt_walk _ _ p k _ (HR.out.drew.has) h8 (by omega)).mono ?_; rintro e w2 ⟨rfl, hb2⟩; rw [HM.out]; have q0' : w2.cell? ⟨N, 0, none⟩ = some _ := (HR.out.drew.more hb2).cell0; have q1' : w2.cell? ⟨N, 1, none⟩ = some _ := (HR.out.drew.more hb2).cell1; have q2' : w2.cell? ⟨b, o + m, none⟩ = some _ := (cell_below hb2 _ q2); have q3' : w2.cell? ⟨tb, t0 + k, none⟩ = some _ := (cell_below hb2 _ hct))))
  go_wp2
  go_ret
  exact ⟨by rw [HV.out, HTT.out]; rfl, by rw [HN.out]; exact (HR.out.drew.more hb2).below⟩
end Go.Proofs.Ytmpgjnindbklaaa
