import Derived.Test.YtmpgjnindbklaaaEShowP
import Derived.BigQuiet
namespace Go.Proofs.Ytmpgjnindbklaaa
open Go.RowKit BA Ex

theorem full_get {p : Lt} {s : St} (hc : s.c.length = 28) (h8 : p.words.length ≤ 8) (hT : p.threads.length ≤ 4) : (full p s).length = p.words.length + 5 * p.threads.length ∧ (∀ k, k < p.threads.length → (full p s).getD (p.words.length + k * 5) 0 = g s.c (8 + k)) ∧ (full p s).take p.words.length = s.c.take p.words.length ∧ ∀ k, k < p.threads.length → ((full p s).drop (p.words.length + k * 5 + 1)).take 4 = (s.c.drop (12 + 4 * k)).take 4 := by
  have hl1 : (s.c.take p.words.length).length = p.words.length := by rw [List.length_take]; omega
  have hblk : ∀ k, k < 4 → (g s.c (8 + k) :: (s.c.drop (12 + 4 * k)).take 4).length = 5 := fun k hk => by simp; omega
  have hpre : ∀ n, n ≤ p.threads.length → ((List.range n).flatMap fun k => g s.c (8 + k) :: (s.c.drop (12 + 4 * k)).take 4).length = 5 * n := by
    intro n
    induction n with
    | zero => intro _; rfl
    | succ n ih =>
      intro hn
      rw [List.range_succ, List.flatMap_append, List.length_append, ih (by omega)]
      simp only [List.flatMap_cons, List.flatMap_nil, List.append_nil]
      rw [hblk n (by omega)]
      omega
  have hsplit : ∀ k, k < p.threads.length → ∃ r, (List.range p.threads.length).flatMap (fun k => g s.c (8 + k) :: (s.c.drop (12 + 4 * k)).take 4) = ((List.range k).flatMap fun k => g s.c (8 + k) :: (s.c.drop (12 + 4 * k)).take 4) ++ ((g s.c (8 + k) :: (s.c.drop (12 + 4 * k)).take 4) ++ r) := fun k hk => by
    have e : List.range p.threads.length = List.range k ++ (k :: ((List.range (p.threads.length - k - 1)).map (k + 1 + ·))) := by
      have h1 : List.range p.threads.length = List.range (k + 1) ++ (List.range (p.threads.length - k - 1)).map (k + 1 + ·) := by
        rw [← List.range_add]; congr 1; omega
      rw [h1, List.range_succ, List.append_assoc]
      rfl
    exact ⟨_, by rw [e, List.flatMap_append, List.flatMap_cons]⟩
  have key : ∀ k, k < p.threads.length → ∃ a r, full p s = a ++ ((g s.c (8 + k) :: (s.c.drop (12 + 4 * k)).take 4) ++ r) ∧ a.length = p.words.length + k * 5 := fun k hk => by
    obtain ⟨r, hr⟩ := hsplit k hk
    refine ⟨s.c.take p.words.length ++ (List.range k).flatMap fun k => g s.c (8 + k) :: (s.c.drop (12 + 4 * k)).take 4, r, ?_, ?_⟩
    · unfold full
      rw [hr, List.append_assoc]
    · rw [List.length_append, hl1, hpre k (by omega)]; omega
  refine ⟨?_, fun k hk => ?_, ?_, fun k hk => ?_⟩
  · unfold full
    rw [List.length_append, hl1, hpre _ (Nat.le_refl _)]
  · obtain ⟨a, r, e, hl⟩ := key k hk
    rw [e, List.getD_eq_getElem?_getD, List.getElem?_append_right (by omega), hl, Nat.sub_self]
    rfl
  · unfold full
    rw [List.take_append_of_le_length (by omega), List.take_of_length_le (by omega)]
  · obtain ⟨a, r, e, hl⟩ := key k hk
    have h4 : ((s.c.drop (12 + 4 * k)).take 4).length = 4 := by simp; omega
    rw [e, List.drop_append, List.drop_of_length_le (by omega), List.nil_append, show p.words.length + k * 5 + 1 - a.length = 1 by omega, List.cons_append, List.drop_succ_cons, List.drop_zero, List.take_append_of_le_length (by omega), List.take_of_length_le (by omega)]

theorem endB_not {p : Lt} {s : St} {k : Nat} (hk : k < p.threads.length) (h : g s.c (8 + k) ≠ ((p.threads.getD k []).length : Int)) : endB p s = false := by
  unfold endB
  rw [Bool.eq_false_iff]
  intro hh
  rw [List.all_eq_true] at hh
  exact h (by simpa using hh k (List.mem_range.2 hk))
theorem endB_all {p : Lt} {s : St} (h : ∀ k, k < p.threads.length → g s.c (8 + k) = ((p.threads.getD k []).length : Int)) : endB p s = true := by
  unfold endB
  rw [List.all_eq_true]
  intro k hk
  simpa using h k (List.mem_range.1 hk)

set_option maxRecDepth 100000 in
set_option maxHeartbeats 4000000 in
theorem ended_walk (sw st rv : Value) (p : Lt) (s : St) (w : World) (h : PHas w sw st p) (hr : Reads w rv (ints (full p s))) (hc : s.c.length = 28) (h8 : p.words.length ≤ 8) (hT : p.threads.length ≤ 4) :
    Calls Try.prog 23 #[.agg #[sw, st], rv] w fun e w' => e = .returned (.bool (endB p s)) ∧ Below w.heap.size w w' := by
  obtain ⟨f1, f2, _, _⟩ := full_get (s := s) hc h8 hT
  have hR := RChk.begin h
  have hr1 := reads_below hr ((Below.refl _ _).alloc (Nat.le_refl _) (.cells #[sw, st] 25 (0, 0)))
  obtain ⟨aw, cw, hw⟩ := h.words_shape
  obtain ⟨at0, ct, hst⟩ := h.threads.shape
  subst hw hst
  clear h hr
  obtain ⟨ra, rc, rfl⟩ := ints_shape hr1
  rw [f1] at hr1 ⊢
  go_enter Try.func23, Try.ntmps23
  go_wp2_with fail
  generalize hW : w.alloc (.cells #[.slice aw p.words.length cw, .slice at0 p.threads.length ct] 25 (0, 0)) = w1 at hR hr1 ⊢
  clear hW
  generalize hN : w.heap.size = N at hR ⊢
  have HN := Lib.hid hN
  clear hN
  generalize hfl : full p s = fl at hr1 f2 f1
  have HF2 := Lib.hid f2
  have HF1 := Lib.hid f1
  have HR1 := Lib.hid hr1
  clear hfl f2 f1 hr1
  go_loopw [5] (fun kv wr => ∃ k : Nat, k ≤ p.threads.length ∧ kv = .int .i64 k ∧ RChk w wr N (.slice aw p.words.length cw) (.slice at0 p.threads.length ct) p ∧ Reads wr (.slice ra (p.words.length + 5 * p.threads.length) rc) (ints fl) ∧ ∀ j, j < k → g s.c (8 + j) = ((p.threads.getD j []).length : Int)) (fun kv _ => p.threads.length - (intOf kv).toNat)
  case atStart => exact ⟨0, by omega, rfl, hR, HR1.out, fun j hj => by omega⟩
  case round =>
    clear hR HR1
    obtain ⟨k, hk, rfl, hR, hr, hA⟩ := hrel
    have q0 := hR.cell0
    have q1 := hR.cell1
    by_cases hlt : k < p.threads.length
    · obtain ⟨tb, t0, c', tv, hv, hbl, hct, hL⟩ := hR.has.threads.at' hlt
      cases hv
      obtain ⟨al, cl, rfl⟩ := hL.shape
      have hfl : fl.length = p.words.length + 5 * p.threads.length := HF1.out
      obtain ⟨rb, ro, rc', hv, hrb⟩ := ints_form hr (by omega)
      rw [hfl] at hv
      cases hv
      have hrc := ints_at hr (k := p.words.length + k * 5) (by omega)
      rw [HF2.out k hlt] at hrc
      have HA := Lib.hid hA
      have HR := Lib.hid hR
      have Hr := Lib.hid hr
      have hno := fun hne => endB_not (s := s) hlt hne
      have HNO := Lib.hid hno
      clear hA hR hr hL hno
      generalize hm : (p.threads.getD k []).length = m at hct HNO
      generalize hgv : g s.c (8 + k) = v at hrc HNO
      generalize hj : p.words.length + k * 5 = j at hrc
      have hm1 : IntKind.i64.wrap ((k : Int) * 5) = (k : Int) * 5 := by rw [wrap_w64]; unfold w64 RowKit.wrap64; omega
      have hm2 : IntKind.i64.wrap ((p.words.length : Int) + (k : Int) * 5) = (j : Int) := by rw [wrap_w64]; unfold w64 RowKit.wrap64; omega
      have hjl : j < p.words.length + 5 * p.threads.length := by omega
      have HM := Lib.hid hm
      have HG := Lib.hid hgv
      have HJ := Lib.hid hj
      clear hm hgv hj hfl
      generalize p.words.length + 5 * p.threads.length = L at hjl Hr ⊢
      have g1 : decide ((L : Int) ≤ (j : Int)) = false := decide_eq_false (by omega)
      have g1' : decide (L ≤ j) = false := decide_eq_false (by omega)
      have g2 : (j : Int) < (L : Int) := by omega
      by_cases hvm : v = (m : Int)
      · have b1 : (v == (m : Int)) = true := by simpa using hvm
        have b2 : decide (v = (m : Int)) = true := decide_eq_true hvm
        have hA2 : ∀ i, i < k + 1 → g s.c (8 + i) = ((p.threads.getD i []).length : Int) := fun i hi => by
          by_cases hik : i = k
          · subst hik; rw [HG.out, HM.out]; exact hvm
          · exact HA.out i (by omega)
        have HA2 := Lib.hid hA2
        clear hA2 hvm
        go_wp2_with fail
        go_region
        all_goals (
          go_wp2
          go_roundw
          case rel => exact ⟨k + 1, by omega, by go_num, HR.out.drew, Hr.out, HA2.out⟩
          case measure => simp [intOf]; omega)
      · have b1 : (v == (m : Int)) = false := by simpa using hvm
        have b2 : decide (v = (m : Int)) = false := decide_eq_false hvm
        have HE := Lib.hid (HNO.out hvm)
        clear hvm
        go_wp2_with fail
        go_region
        all_goals (
          go_wp2
          go_ret
          exact ⟨by rw [HE.out]; rfl, by rw [HN.out]; exact HR.out.drew.below⟩)
    · obtain rfl : k = p.threads.length := by omega
      have HE := Lib.hid (endB_all hA)
      have HR := Lib.hid hR
      clear hA hR hr
      go_wp2
      go_ret
      exact ⟨congrArg (fun b => Ending.returned (.bool b)) HE.out.symm, by rw [HN.out]; exact HR.out.below⟩
end Go.Proofs.Ytmpgjnindbklaaa
