import Derived.Test.YtmpgjnindbklaaaEChk1
import Derived.Handy
namespace Go.Proofs.Ytmpgjnindbklaaa
open Go.RowKit BA Ex

/-- A state in memory: 28 numbers and a bool in one block. -/
structure Sta (w : World) (R : Nat) (c : List Int) (bad : Bool) : Prop where
  len : c.length = 28
  blk : w.heap[R]? = some (.cells ((ints c ++ [Value.bool bad]).toArray) 70 (0, 0))

theorem Sta.at' {w : World} {R : Nat} {c : List Int} {bad : Bool} (h : Sta w R c bad) {i : Nat} (hi : i < 28) : w.cell? ⟨R, i, none⟩ = some (.int .i64 (g c i)) := by
  have hl := h.len
  simp only [World.cell?, h.blk]
  simp [ints, g, hl, hi, List.getElem?_append]
theorem Sta.badc {w : World} {R : Nat} {c : List Int} {bad : Bool} (h : Sta w R c bad) : w.cell? ⟨R, 28, none⟩ = some (.bool bad) := by
  have hl := h.len
  simp only [World.cell?, h.blk]
  simp [ints, hl]
theorem Sta.free {w : World} {R : Nat} {c : List Int} {bad : Bool} (h : Sta w R c bad) (i : Nat) : w.frozen? ⟨R, i, none⟩ = false := by
  simp [World.frozen?, h.blk]
theorem Sta.set {w : World} {R : Nat} {c : List Int} {bad : Bool} (h : Sta w R c bad) {i : Nat} (hi : i < 28) (v : Int) : Sta (w.setCell ⟨R, i, none⟩ (.int .i64 v)) R (c.set i v) bad := by
  have hl := h.len
  refine ⟨by simpa using hl, ?_⟩
  rw [cells_set h.blk]
  congr 2
  apply Array.toList_inj.1
  simp only [Array.toList_setIfInBounds]
  rw [List.set_append_left _ _ (by simp [ints, hl]; omega)]
  simp [ints, List.map_set]
theorem Sta.kept {w w' : World} {R : Nat} {c : List Int} {bad : Bool} {row : Option Nat} (h : Sta w R c bad) (hg : w.grownBy w' row) (hr : some R ≠ row) : Sta w' R c bad :=
  ⟨h.len, (hg.block R (by have := h.blk; rw [Array.getElem?_eq_some_iff] at this; exact this.1) hr).trans h.blk⟩
theorem Sta.lt {w : World} {R : Nat} {c : List Int} {bad : Bool} (h : Sta w R c bad) : R < w.heap.size := by
  have := h.blk; rw [Array.getElem?_eq_some_iff] at this; exact this.1

theorem own_end1 {w : World} {R : Nat} {c : List Int} {bad : Bool} (h : Sta w R c bad) {i : Nat} (hi : i < 28) (v : Int) (o : Obj) :
    Sta ((w.setCell ⟨R, i, none⟩ (.int .i64 v)).alloc o).drew R (c.set i v) bad ∧ w.grownBy ((w.setCell ⟨R, i, none⟩ (.int .i64 v)).alloc o).drew (some R) := by
  have hg := grown_drew (World.grownBy_alloc (w.setCell ⟨R, i, none⟩ (.int .i64 v)) o none)
  have hg' := grown_drew (World.grownBy_alloc (w.setCell ⟨R, i, none⟩ (.int .i64 v)) o (some R))
  exact ⟨(h.set hi v).kept hg (by simp), grown_trans (grown_set _ _ _ _) hg'⟩
theorem own_end0 {w : World} {R : Nat} {c : List Int} {bad : Bool} (h : Sta w R c bad) (o : Obj) : Sta (w.alloc o) R c bad ∧ w.grownBy (w.alloc o) (some R) :=
  ⟨h.kept (World.grownBy_alloc w o none) (by simp), World.grownBy_alloc w o (some R)⟩
theorem own_endd {w : World} {R : Nat} {c : List Int} {bad : Bool} (h : Sta w R c bad) (o : Obj) : Sta (w.alloc o).drew R c bad ∧ w.grownBy (w.alloc o).drew (some R) :=
  ⟨h.kept (grown_drew (World.grownBy_alloc w o none)) (by simp), grown_drew (World.grownBy_alloc w o (some R))⟩

set_option maxRecDepth 100000 in
set_option maxHeartbeats 4000000 in
theorem own6 (R r : Nat) (c : List Int) (bad : Bool) (a : Nat) (b k : Int) (at' : Int) (w : World) (h : Sta w R c bad) (hr : r + 4 ≤ 28) (ha : a < 4) :
    Calls Try.prog 55 #[.pointer (some ⟨R, r, none⟩), .agg #[.int .i64 6, .int .i64 a, .int .i64 b, .int .i64 k], .int .i64 at'] w fun e w' =>
      e = .returned (.tuple #[.int .i64 (w64 (at' + 1)), .bool false]) ∧ Sta w' R (c.set (r + a) b) bad ∧ w.grownBy w' (some R) := by
  have hc := h.at' (i := r + a) (by omega)
  have hz := h.free (r + a)
  have hlt := h.lt
  have H := Lib.hid h
  clear h
  go_enter Try.func55, Try.ntmps55
  go_wp2
  go_region
  go_wp2
  go_ret2
  exact ⟨rfl, own_end1 H.out (i := r + a) (by omega) _ _⟩

set_option maxRecDepth 100000 in
set_option maxHeartbeats 4000000 in
theorem own7 (R r : Nat) (c : List Int) (bad : Bool) (a b : Nat) (k : Int) (at' : Int) (w : World) (h : Sta w R c bad) (hr : r + 4 ≤ 28) (ha : a < 4) (hb : b < 4) :
    Calls Try.prog 55 #[.pointer (some ⟨R, r, none⟩), .agg #[.int .i64 7, .int .i64 a, .int .i64 b, .int .i64 k], .int .i64 at'] w fun e w' =>
      e = .returned (.tuple #[.int .i64 (w64 (at' + 1)), .bool false]) ∧ Sta w' R (c.set (r + a) (w64 (g c (r + b) + k))) bad ∧ w.grownBy w' (some R) := by
  have hc := h.at' (i := r + a) (by omega)
  have hd := h.at' (i := r + b) (by omega)
  have hz := h.free (r + a)
  have hlt := h.lt
  have H := Lib.hid h
  clear h
  go_enter Try.func55, Try.ntmps55
  go_wp2
  go_region
  go_wp2
  go_ret2
  exact ⟨rfl, own_end1 H.out (i := r + a) (by omega) _ _⟩

set_option maxRecDepth 100000 in
set_option maxHeartbeats 4000000 in
theorem own8 (R r : Nat) (c : List Int) (bad : Bool) (a : Nat) (b k : Int) (at' : Int) (w : World) (h : Sta w R c bad) (hr : r + 4 ≤ 28) (ha : a < 4) :
    Calls Try.prog 55 #[.pointer (some ⟨R, r, none⟩), .agg #[.int .i64 8, .int .i64 a, .int .i64 b, .int .i64 k], .int .i64 at'] w fun e w' =>
      e = .returned (.tuple #[.int .i64 (if g c (r + a) = b then k else w64 (at' + 1)), .bool false]) ∧ Sta w' R (c) bad ∧ w.grownBy w' (some R) := by
  have hc := h.at' (i := r + a) (by omega)
  have hlt := h.lt
  have H := Lib.hid h
  clear h
  by_cases he : g c (r + a) = b
  · have he' : (g c (r + a) == b) = true := by simpa using he
    rw [if_pos he]
    clear he
    generalize g c (r + a) = v at hc he'
    go_enter Try.func55, Try.ntmps55
    go_wp2
    go_region
    go_wp2
    go_ret2
    exact ⟨rfl, own_endd H.out _⟩
  · have he' : (g c (r + a) == b) = false := by simpa using he
    rw [if_neg he]
    clear he
    generalize g c (r + a) = v at hc he'
    go_enter Try.func55, Try.ntmps55
    go_wp2
    go_region
    go_wp2
    go_ret2
    exact ⟨rfl, own_endd H.out _⟩

set_option maxRecDepth 100000 in
set_option maxHeartbeats 4000000 in
theorem own9 (R r : Nat) (c : List Int) (bad : Bool) (a b k : Int) (at' : Int) (w : World) (h : Sta w R c bad)  :
    Calls Try.prog 55 #[.pointer (some ⟨R, r, none⟩), .agg #[.int .i64 9, .int .i64 a, .int .i64 b, .int .i64 k], .int .i64 at'] w fun e w' =>
      e = .returned (.tuple #[.int .i64 k, .bool false]) ∧ Sta w' R (c) bad ∧ w.grownBy w' (some R) := by
  have hlt := h.lt
  have H := Lib.hid h
  clear h
  go_enter Try.func55, Try.ntmps55
  go_wp2
  go_ret2
  exact ⟨rfl, own_end0 H.out _⟩

set_option maxRecDepth 100000 in
set_option maxHeartbeats 4000000 in
theorem own10 (R r : Nat) (c : List Int) (bad : Bool) (a : Nat) (b k : Int) (at' : Int) (w : World) (h : Sta w R c bad) (hr : r + 4 ≤ 28) (ha : a < 4) :
    Calls Try.prog 55 #[.pointer (some ⟨R, r, none⟩), .agg #[.int .i64 10, .int .i64 a, .int .i64 b, .int .i64 k], .int .i64 at'] w fun e w' =>
      e = .returned (.tuple #[.int .i64 (w64 (at' + 1)), .bool (g c (r + a) != b)]) ∧ Sta w' R (c) bad ∧ w.grownBy w' (some R) := by
  have hc := h.at' (i := r + a) (by omega)
  have hlt := h.lt
  have H := Lib.hid h
  clear h
  go_enter Try.func55, Try.ntmps55
  go_wp2
  go_region
  go_wp2
  go_ret2
  exact ⟨rfl, own_endd H.out _⟩

set_option maxRecDepth 100000 in
set_option maxHeartbeats 4000000 in
theorem own0 (R r : Nat) (c : List Int) (bad : Bool) (op a b k : Int) (at' : Int) (w : World) (h : Sta w R c bad) (h6 : op ≠ 6) (h7 : op ≠ 7) (h8 : op ≠ 8) (h9 : op ≠ 9) (h10 : op ≠ 10) :
    Calls Try.prog 55 #[.pointer (some ⟨R, r, none⟩), .agg #[.int .i64 op, .int .i64 a, .int .i64 b, .int .i64 k], .int .i64 at'] w fun e w' =>
      e = .returned (.tuple #[.int .i64 (w64 (at' + 1)), .bool false]) ∧ Sta w' R (c) bad ∧ w.grownBy w' (some R) := by
  have b6 : (op == 6) = false := by simpa using h6
  have b7 : (op == 7) = false := by simpa using h7
  have b8 : (op == 8) = false := by simpa using h8
  have b9 : (op == 9) = false := by simpa using h9
  have b10 : (op == 10) = false := by simpa using h10
  clear h6 h7 h8 h9 h10
  have hlt := h.lt
  have H := Lib.hid h
  clear h
  go_enter Try.func55, Try.ntmps55
  go_wp2
  go_ret2
  exact ⟨rfl, own_end0 H.out _⟩


theorem ne_dec (x b : Int) : (x != b) = decide (x ≠ b) := by
  by_cases h : x = b <;> simp [h]

theorem reg_nat {a : Int} (h : reg a = true) : ∃ k : Nat, a = k ∧ k < 4 := by
  simp only [reg, Bool.and_eq_true, decide_eq_true_eq] at h
  exact ⟨a.toNat, by omega, by omega⟩
theorem word_nat {n : Nat} {a : Int} (h : word n a = true) : ∃ k : Nat, a = k ∧ k < n := by
  simp only [word, Bool.and_eq_true, decide_eq_true_eq] at h
  exact ⟨a.toNat, by omega, by omega⟩

theorem own_walk (R r : Nat) (c : List Int) (bad : Bool) (x : Ln) (n lines : Nat) (hx : lineOK n lines x = true) (at' : Int) (w : World) (h : Sta w R c bad) (hr : r + 4 ≤ 28) :
    Calls Try.prog 55 #[.pointer (some ⟨R, r, none⟩), .agg #[.int .i64 x.op, .int .i64 x.a, .int .i64 x.b, .int .i64 x.c], .int .i64 at'] w fun e w' =>
      e = .returned (.tuple #[.int .i64 (own c r x at').2.1, .bool (own c r x at').2.2]) ∧ Sta w' R (own c r x at').1 bad ∧ w.grownBy w' (some R) := by
  obtain ⟨op, a, b, k⟩ := x
  by_cases h6 : op = 6
  · subst h6
    obtain ⟨a', rfl, ha⟩ := reg_nat (a := a) (by simpa [lineOK] using hx)
    simpa [own] using own6 R r c bad a' b k at' w h hr ha
  by_cases h7 : op = 7
  · subst h7
    have hx' : reg a = true ∧ reg b = true := by simpa [lineOK] using hx
    obtain ⟨a', rfl, ha⟩ := reg_nat hx'.1
    obtain ⟨b', rfl, hb⟩ := reg_nat hx'.2
    simpa [own] using own7 R r c bad a' b' k at' w h hr ha hb
  by_cases h8 : op = 8
  · subst h8
    have hx' : reg a = true ∧ place lines k = true := by simpa [lineOK] using hx
    obtain ⟨a', rfl, ha⟩ := reg_nat hx'.1
    simpa [own] using own8 R r c bad a' b k at' w h hr ha
  by_cases h9 : op = 9
  · subst h9
    simpa [own] using own9 R r c bad a b k at' w h
  by_cases h10 : op = 10
  · subst h10
    obtain ⟨a', rfl, ha⟩ := reg_nat (a := a) (by simpa [lineOK] using hx)
    simpa [own, ne_dec] using own10 R r c bad a' b k at' w h hr ha
  · simpa [own, h6, h7, h8, h9, h10] using own0 R r c bad op a b k at' w h h6 h7 h8 h9 h10
end Go.Proofs.Ytmpgjnindbklaaa
