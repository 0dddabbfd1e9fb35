import Derived.Test.YtmpgjnindbklaaaESame
import Derived.Test.YtmpgjnindbklaaaERef2
import Derived.Handy
namespace Go.Proofs.Ytmpgjnindbklaaa
open Go.RowKit BA Ex

def Ex.tot (p : Lt) (k : Nat) : Nat := p.words.length + p.threads.length + ((p.threads.take k).map List.length).sum
theorem tot_succ (p : Lt) {k : Nat} (hk : k < p.threads.length) : tot p (k + 1) = tot p k + (p.threads.getD k []).length := by
  have e : p.threads.take (k + 1) = p.threads.take k ++ [p.threads[k]] := by rw [List.take_add_one, List.getElem?_eq_getElem hk]; rfl
  unfold tot
  rw [e, List.map_append, List.sum_append]
  have e2 : p.threads.getD k [] = p.threads[k] := by simp [List.getD_eq_getElem?_getD, hk]
  rw [e2]
  simp only [List.map_cons, List.map_nil, List.sum_cons, List.sum_nil]
  omega
theorem tot_le (p : Lt) {k : Nat} (hk : k ≤ p.threads.length) : tot p k ≤ tot p p.threads.length := by
  obtain ⟨d, hd⟩ : ∃ d, p.threads.length = k + d := ⟨p.threads.length - k, by omega⟩
  have : ∀ d, k + d ≤ p.threads.length → tot p k ≤ tot p (k + d) := by
    intro d
    induction d with
    | zero => intro _; exact Nat.le_refl _
    | succ d ih => intro h; have h1 := tot_succ p (k := k + d) (by omega); have h2 := ih (by omega); rw [← Nat.add_assoc]; omega
  rw [hd]
  exact this d (by omega)
/-- Is a little program looked at? -/
def Ex.smallB (p : Lt) : Bool := decide (tot p p.threads.length ≤ 400)

set_option maxRecDepth 100000 in
set_option maxHeartbeats 4000000 in
theorem small_walk (sw st : Value) (p : Lt) (w : World) (h : PHas w sw st p) (hw : p.words.length ≤ 281474976710656) (ht : p.threads.length ≤ 281474976710656) (htt : ∀ k, (p.threads.getD k []).length ≤ 281474976710656) :
    Calls Try.prog 8 #[.agg #[sw, st]] w fun e w' => e = .returned (.bool (smallB p)) ∧ Below w.heap.size w w' := by
  obtain ⟨aw, cw, rfl⟩ := h.words_shape
  obtain ⟨at0, ct, rfl⟩ := h.threads.shape
  have hR := RChk.begin h
  clear h
  have HTT := Lib.hid htt
  clear htt
  go_enter Try.func8, Try.ntmps8
  go_wp2_with fail
  generalize hW : w.alloc (.cells #[.slice aw p.words.length cw, .slice at0 p.threads.length ct] 25 (0, 0)) = w1 at hR ⊢
  clear hW
  generalize hN : w.heap.size = N at hR ⊢
  have HN := Lib.hid hN
  clear hN
  have ht0 : tot p 0 = p.words.length + p.threads.length := by simp [tot]
  go_loopw [3, 4] (fun nv kv wr => ∃ k : Nat, k ≤ p.threads.length ∧ nv = .int .i64 (tot p k) ∧ kv = .int .i64 k ∧ RChk w wr N (.slice aw p.words.length cw) (.slice at0 p.threads.length ct) p ∧ tot p k ≤ 1125899906842624) (fun _ kv _ => p.threads.length - (intOf kv).toNat)
  case atStart => exact ⟨0, by omega, by rw [ht0]; go_num, rfl, hR, by omega⟩
  case round =>
    clear hR ht0
    obtain ⟨k, hk, rfl, rfl, hR, hbig⟩ := hrel
    have q1 := hR.cell1
    by_cases hlt : k < p.threads.length
    · by_cases h4 : tot p k ≤ 400
      · obtain ⟨b, o, c, tv, hv, hbl, hct, hL⟩ := hR.has.threads.at' hlt
        cases hv
        obtain ⟨al, cl, rfl⟩ := hL.shape
        have hs := tot_succ p hlt
        have hle := HTT.out k
        have HS := Lib.hid hs
        clear hs
        generalize p.threads.getD k [] = tt at hct hL hle HS
        generalize tot p k = n at h4 hbig HS
        go_wp2
        go_roundw
        case rel => exact ⟨k + 1, by omega, by rw [HS.out]; go_num, by go_num, hR, by rw [HS.out]; omega⟩
        case measure => simp [intOf]; omega
      · have hf : smallB p = false := decide_eq_false (by have := tot_le p hk; omega)
        have HF := Lib.hid hf
        clear hf
        generalize tot p k = n at h4 hbig
        have h4' : decide ((n : Int) ≤ 400) = false := decide_eq_false (by omega)
        go_wp2
        go_ret
        exact ⟨by rw [HF.out]; rfl, by rw [HN.out]; exact hR.below⟩
    · obtain rfl : k = p.threads.length := by omega
      have hf : smallB p = decide ((tot p p.threads.length : Int) ≤ 400) := by unfold smallB; exact decide_eq_decide.2 (by omega)
      have HF := Lib.hid hf
      clear hf
      generalize tot p p.threads.length = n at hbig HF
      go_wp2
      go_ret
      exact ⟨by rw [HF.out]; rfl, by rw [HN.out]; exact hR.below⟩
end Go.Proofs.Ytmpgjnindbklaaa
