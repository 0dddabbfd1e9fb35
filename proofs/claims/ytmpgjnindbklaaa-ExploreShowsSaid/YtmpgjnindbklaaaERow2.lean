import Derived.Test.YtmpgjnindbklaaaEOver
namespace Go.Proofs.Ytmpgjnindbklaaa
open Go.RowKit BA Ex

theorem RSP.grown {w wr w' : World} {N : Nat} {c : List Int} {bad : Bool} {sw st : Value} {p : Lt} {row : Option Nat} (h : RSP w wr N c bad sw st p) (h0 : PHas w sw st p) (hN : w.heap.size = N) (hg : wr.grownBy w' row) (hr : ∀ k, row = some k → N + 2 ≤ k) : RSP w w' N c bad sw st p := by
  have hlt : N + 1 < wr.heap.size := by have := h.box; rw [Array.getElem?_eq_some_iff] at this; exact this.1
  have hb : Below N w w' := h.below.grown hg (by omega) (fun k hk => by have := hr k hk; omega)
  refine ⟨hb, h.s.kept hg (fun e => by have := hr N e.symm; omega), (hg.block (N + 1) hlt (fun e => by have := hr (N + 1) e.symm; omega)).trans h.box, h0.below (by rw [hN]; exact hb)⟩

def rowTo (p : Lt) (c : List Int) (k : Nat) : List Int := c.take p.words.length ++ (List.range k).flatMap fun k => (c.drop (12 + 4 * k)).take 4
theorem rowTo_succ (p : Lt) (c : List Int) (k : Nat) : rowTo p c (k + 1) = rowTo p c k ++ (c.drop (12 + 4 * k)).take 4 := by
  simp [rowTo, List.range_succ]
theorem rowTo_len {p : Lt} {c : List Int} (hc : c.length = 28) (h8 : p.words.length ≤ 8) {k : Nat} (hk : k ≤ 4) : (rowTo p c k).length = p.words.length + 4 * k := by
  induction k with
  | zero => simp [rowTo]; omega
  | succ k ih =>
    rw [rowTo_succ, List.length_append, ih (by omega)]
    simp only [List.length_take, List.length_drop]
    omega
theorem row_to (p : Lt) (s : St) : row p s = rowTo p s.c p.threads.length := rfl
theorem ints_append (a b : List Int) : ints (a ++ b) = ints a ++ ints b := by simp [ints]
theorem regs_cells {w : World} {N : Nat} {c : List Int} {bad : Bool} (h : Sta w N c bad) {o n : Nat} (ho : o + n ≤ 28) (j : Nat) (u : Value) (hj : (ints ((c.drop o).take n))[j]? = some u) : w.cell? ⟨N, o + j, none⟩ = some u := by
  have hl := h.len
  simp only [ints, List.getElem?_map, List.getElem?_take, List.getElem?_drop] at hj
  by_cases hjn : j < n
  · rw [if_pos hjn] at hj
    have hlt : o + j < c.length := by omega
    rw [List.getElem?_eq_getElem hlt] at hj
    have := h.at' (i := o + j) (by omega)
    rw [this]
    simp only [Option.map_some, Option.some.injEq] at hj
    rw [← hj]
    simp [g, List.getD_eq_getElem?_getD, List.getElem?_eq_getElem hlt]
  · rw [if_neg hjn] at hj
    cases hj

set_option maxRecDepth 100000 in
set_option maxHeartbeats 4000000 in
theorem row_walk (sw st : Value) (c : List Int) (bad : Bool) (p : Lt) (w : World) (h : PHas w sw st p) (hc : c.length = 28) (h8 : p.words.length ≤ 8) (hT : p.threads.length ≤ 4) :
    Calls Try.prog 37 #[.agg (stA c bad), .agg #[sw, st]] w fun e w' => ∃ v', e = .returned v' ∧ OwnS w' w.heap.size 1 v' (row p ⟨c, bad⟩).length (ints (row p ⟨c, bad⟩)) ∧ Below w.heap.size w w' := by
  obtain ⟨at0, ct, rfl⟩ := h.threads.shape
  obtain ⟨aw, cw, rfl⟩ := h.words_shape
  have hR := RSP.begin (bad := bad) h hc
  have H0 := Lib.hid h
  clear h
  have hone := stA_one c bad
  generalize hA : stA c bad = A at hone hR ⊢
  have HA := Lib.hid hA
  clear hA
  go_enter Try.func37, Try.ntmps37
  have h8i : (p.words.length : Int) ≤ 8 := by omega
  go_wp2_with fail
  generalize hW : (w.alloc (.cells A 70)).alloc (.cells #[.slice aw p.words.length cw, .slice at0 p.threads.length ct] 25) = w0 at hR ⊢
  clear hW
  generalize hN : w.heap.size = N at hR ⊢
  have HN := Lib.hid hN
  clear hN
  have hlen : (c.take p.words.length).length = p.words.length := by rw [List.length_take]; omega
  have hcl := clone_walk N 0 8 (c.take p.words.length) w0 (fun j u hj => regs_cells hR.s (o := 0) (n := p.words.length) (by omega) j u (by simpa using hj)) (by omega)
  rw [hlen] at hcl
  refine hcl.mono ?_
  rintro e w1 ⟨v0, rfl, hv0, hb0⟩
  have hR1 := hR.more hb0
  have hBN : N + 2 ≤ w0.heap.size := by have := hR.box; rw [Array.getElem?_eq_some_iff] at this; exact this.1
  have hBs : w0.heap.size ≤ w1.heap.size := hb0.size
  generalize w0.heap.size = B at hv0 hBN hBs
  clear hR hcl hb0
  have hO1 : OwnS w1 B 1 v0 (rowTo p c 0).length (ints (rowTo p c 0)) := by
    have e0 : rowTo p c 0 = c.take p.words.length := by simp [rowTo]
    rw [e0, hlen]; exact hv0
  clear hv0
  have hi : Try.prog.info? 3 = some Try.t3 := by kernel_rfl
  have HH := Lib.hid hi
  clear hi
  have hx1 := hR1.cell1
  go_wp2_with fail
  clear hx1
  go_loopw [5, 16] (fun ov kv wr => ∃ k : Nat, k ≤ p.threads.length ∧ kv = .int .i64 k ∧ RSP w wr N c bad (.slice aw p.words.length cw) (.slice at0 p.threads.length ct) p ∧ OwnS wr B 1 ov (rowTo p c k).length (ints (rowTo p c k)) ∧ B ≤ wr.heap.size) (fun _ kv _ => p.threads.length - (intOf kv).toNat)
  case atStart => exact ⟨0, by omega, rfl, hR1, hO1, hBs⟩
  case round =>
    clear hR1 hO1 hBs
    obtain ⟨k, hk, rfl, hR, hO, hBs⟩ := hrel
    by_cases hlt : k < p.threads.length
    · have hk4 : (k : Int) < 4 := by omega
      have hnl : N < wr.heap.size := hR.s.lt
      have hnews := regs_cells hR.s (o := 12 + k * 4) (n := 4) (by omega)
      have hr4 : (ints ((c.drop (12 + k * 4)).take 4)).length = 4 * 1 := by simp [ints]; omega
      have hlk := rowTo_len (p := p) hc h8 (k := k) (by omega)
      have HR := Lib.hid hR
      clear hR
      go_wp2_with (at_builtin; refine wpList_append_ownS _ rfl (.tmp 19) (.tmp 23) 22 rfl B 3 Try.t3 (.int .i64 0) 1 8 Try.underlying22 HH.out rfl rfl rfl rfl (by decide) _ (rowTo p c k).length (ints (rowTo p c k)) rfl hO ⟨N, 12 + k * 4, none⟩ 4 4 (ints ((c.drop (12 + k * 4)).take 4)) rfl hr4 (fun j u hj => by rw [Addr.add_lit]; exact hnews j u hj) (ints_one _) (by unfold maxLen; omega) (by omega) hBs ?_; intro v' w' hv' hg' hob'; have HR' := Lib.hid (HR.out.grown H0.out HN.out hg' (fun j hj => by have := (hO.blk j hj).1; omega)); have hBs' := Nat.le_trans hBs hg'.size)
      go_roundw
      case rel =>
        refine ⟨k + 1, by omega, by go_num, HR'.out, ?_, hBs'⟩
        have e1 : rowTo p c (k + 1) = rowTo p c k ++ (c.drop (12 + k * 4)).take 4 := by rw [rowTo_succ, Nat.mul_comm 4 k]
        rw [e1, ints_append, List.length_append, show ((c.drop (12 + k * 4)).take 4).length = 4 by simpa [ints] using hr4]
        exact hv'
      case measure => simp [intOf]; omega
    · obtain rfl : k = p.threads.length := by omega
      go_wp2
      go_ret
      exact ⟨_, rfl, by
        rw [row_to]
        obtain ⟨te, h1, h2⟩ := hO
        refine ⟨te, h1, ?_⟩
        rcases h2 with hh | ⟨g', cap, cur, q1, q2, q3⟩
        · exact .inl hh
        · exact .inr ⟨g', cap, cur, q1, by rw [HN.out]; omega, q3⟩, by rw [HN.out]; exact hR.below⟩
end Go.Proofs.Ytmpgjnindbklaaa
