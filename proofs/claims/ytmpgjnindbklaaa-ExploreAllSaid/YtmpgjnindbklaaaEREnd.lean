import Derived.Test.YtmpgjnindbklaaaEEnded
import Derived.Test.YtmpgjnindbklaaaERFollow
import Derived.Test.YtmpgjnindbklaaaEKnown
namespace Go.Proofs.Ytmpgjnindbklaaa
open Go.RowKit BA Ex

set_option maxRecDepth 100000 in
set_option maxHeartbeats 4000000 in
theorem refEnd_walk (sw st rv : Value) (p : Lt) (s : St) (w : World) (h : PHas w sw st p) (hr : Reads w rv (ints (flat p s))) (hc : s.c.length = 28) (h8 : p.words.length ≤ 8) (hT : p.threads.length ≤ 4) :
    Calls Try.prog 27 #[.agg #[sw, st], rv] w fun e w' => e = .returned (.bool (endB p s && !s.bad)) ∧ Below w.heap.size w w' := by
  have hfl := flat_len (p := p) hc h8 hT
  have hfb := flat_bad (p := p) hc h8 hT
  have hgk : ∀ k, k < p.threads.length → g (flat p s) (p.words.length + 5 * k) = g s.c (8 + k) := fun k hk => by rw [flat_g hc h8 hT (by omega), psi_at]
  have hbad : (g (flat p s) ((flat p s).length - 1) == 1) = s.bad := by
    rw [hfl, Nat.add_sub_cancel, hfb]; cases s.bad <;> rfl
  have hR := RChk.begin h
  have hr1 := reads_below hr ((Below.refl _ _).alloc (Nat.le_refl _) (.cells #[sw, st] 25 (0, 0)))
  obtain ⟨aw, cw, hw⟩ := h.words_shape
  obtain ⟨at0, ct, hst⟩ := h.threads.shape
  subst hw hst
  clear h hr hfb
  generalize flat p s = fl at hr1 hfl hgk hbad
  have HGK := Lib.hid hgk
  have HBAD := Lib.hid hbad
  clear hgk hbad
  go_enter Try.func27, Try.ntmps27
  go_wp2_with fail
  generalize hW : w.alloc (.cells #[.slice aw p.words.length cw, .slice at0 p.threads.length ct] 25 (0, 0)) = w1 at hR hr1 ⊢
  clear hW
  generalize hN : w.heap.size = N at hR ⊢
  have HN := Lib.hid hN
  clear hN
  have HR1 := Lib.hid hr1
  clear hr1
  go_loopw [5] (fun kv wr => ∃ k : Nat, k ≤ p.threads.length ∧ kv = .int .i64 k ∧ RChk w wr N (.slice aw p.words.length cw) (.slice at0 p.threads.length ct) p ∧ Reads wr rv (ints fl) ∧ ∀ j, j < k → g s.c (8 + j) = ((p.threads.getD j []).length : Int)) (fun kv _ => p.threads.length - (intOf kv).toNat)
  case atStart => exact ⟨0, by omega, rfl, hR, HR1.out, fun j hj => by omega⟩
  case round =>
    clear hR HR1
    obtain ⟨k, hk, rfl, hR, hr, hA⟩ := hrel
    have q0 := hR.cell0
    have q1 := hR.cell1
    by_cases hlt : k < p.threads.length
    · have HA := Lib.hid hA
      clear hA
      go_wp2_with fail
      refine (refOver_walk _ _ _ p fl k wr hR.has hr h8 hlt hT (by omega) (by omega)).mono ?_
      rintro e w2 ⟨rfl, hb2⟩
      rw [HGK.out k hlt]
      have HR := Lib.hid (hR.more hb2)
      have Hr := Lib.hid (reads_below hr hb2)
      clear hR hr q0 q1 hb2
      by_cases hvm : g s.c (8 + k) = ((p.threads.getD k []).length : Int)
      · rw [show (g s.c (8 + k) == ((p.threads.getD k []).length : Int)) = true by simpa using hvm]
        have hA2 : ∀ i, i < k + 1 → g s.c (8 + i) = ((p.threads.getD i []).length : Int) := fun i hi => by
          by_cases hik : i = k
          · subst hik; exact hvm
          · exact HA.out i (by omega)
        have HA2 := Lib.hid hA2
        clear hA2 hvm
        go_wp2
        go_roundw
        case rel => exact ⟨k + 1, by omega, by go_num, HR.out, Hr.out, HA2.out⟩
        case measure => simp [intOf]; omega
      · rw [show (g s.c (8 + k) == ((p.threads.getD k []).length : Int)) = false by simpa using hvm]
        have HE := Lib.hid (endB_not (s := s) hlt hvm)
        clear hvm
        go_wp2
        go_ret
        exact ⟨by rw [HE.out]; rfl, by rw [HN.out]; exact HR.out.below⟩
    · obtain rfl : k = p.threads.length := by omega
      have HE := Lib.hid (endB_all hA)
      clear hA
      go_wp2_with fail
      refine (refBad_walk _ fl wr hr (by omega) (by omega)).mono ?_
      rintro e wx ⟨rfl, rfl⟩
      rw [HBAD.out]
      have HR := Lib.hid hR
      clear hR hr q0 q1
      go_wp2
      go_ret
      exact ⟨by rw [HE.out]; rfl, by rw [HN.out]; exact HR.out.below⟩
end Go.Proofs.Ytmpgjnindbklaaa
