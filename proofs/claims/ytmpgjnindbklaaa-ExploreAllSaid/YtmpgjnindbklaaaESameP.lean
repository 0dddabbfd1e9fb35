import Derived.Test.YtmpgjnindbklaaaESmall
import Derived.BigQuiet
import Derived.Deep.Cut
import Derived.BigRegion
import Derived.Laws.StructEq
namespace Go.Proofs.Ytmpgjnindbklaaa
open Go.RowKit BA Ex

/-- Two boxes of one program. -/
structure RTwo (w wr : World) (N : Nat) (s1 t1 s2 t2 : Value) (p : Lt) : Prop where
  below : Below N w wr
  b1 : wr.heap[N]? = some (.cells #[s1, t1] 25 (0, 0))
  b2 : wr.heap[N + 1]? = some (.cells #[s2, t2] 25 (0, 0))
  h1 : PHas wr s1 t1 p
  h2 : PHas wr s2 t2 p
theorem RTwo.more {w wr w' : World} {N : Nat} {s1 t1 s2 t2 : Value} {p : Lt} (h : RTwo w wr N s1 t1 s2 t2 p) (hb : Below wr.heap.size wr w') : RTwo w w' N s1 t1 s2 t2 p := by
  have hN : N + 1 < wr.heap.size := by have := h.b2; rw [Array.getElem?_eq_some_iff] at this; exact this.1
  exact ⟨h.below.trans (hb.mono (by omega)), (hb.block N (by omega)).trans h.b1, (hb.block (N + 1) hN).trans h.b2, h.h1.below hb, h.h2.below hb⟩
theorem RTwo.c0 {w wr : World} {N : Nat} {s1 t1 s2 t2 : Value} {p : Lt} (h : RTwo w wr N s1 t1 s2 t2 p) : wr.cell? ⟨N, 0, none⟩ = some s1 := by simp [World.cell?, h.b1]
theorem RTwo.c1 {w wr : World} {N : Nat} {s1 t1 s2 t2 : Value} {p : Lt} (h : RTwo w wr N s1 t1 s2 t2 p) : wr.cell? ⟨N, 1, none⟩ = some t1 := by simp [World.cell?, h.b1]
theorem RTwo.d0 {w wr : World} {N : Nat} {s1 t1 s2 t2 : Value} {p : Lt} (h : RTwo w wr N s1 t1 s2 t2 p) : wr.cell? ⟨N + 1, 0, none⟩ = some s2 := by simp [World.cell?, h.b2]
theorem RTwo.d1 {w wr : World} {N : Nat} {s1 t1 s2 t2 : Value} {p : Lt} (h : RTwo w wr N s1 t1 s2 t2 p) : wr.cell? ⟨N + 1, 1, none⟩ = some t2 := by simp [World.cell?, h.b2]
theorem RTwo.begin {w : World} {s1 t1 s2 t2 : Value} {p : Lt} (h1 : PHas w s1 t1 p) (h2 : PHas w s2 t2 p) :
    RTwo w ((w.alloc (.cells #[s1, t1] 25 (0, 0))).alloc (.cells #[s2, t2] 25 (0, 0))) w.heap.size s1 t1 s2 t2 p := by
  have hb : Below w.heap.size w ((w.alloc (.cells #[s1, t1] 25 (0, 0))).alloc (.cells #[s2, t2] 25 (0, 0))) := ((Below.refl _ _).alloc (Nat.le_refl _) _).alloc (by simp) _
  refine ⟨hb, ?_, ?_, h1.below hb, h2.below hb⟩
  · rw [Below.heap_alloc _ _ _ (by simp), heap_alloc_new]
  · simpa using heap_alloc_new (w.alloc (.cells #[s1, t1] 25 (0, 0))) (.cells #[s2, t2] 25 (0, 0))

theorem cell_belowb {w w' : World} (h : Below w.heap.size w w') {a : Addr} {u : Value} (hc : w.cell? a = some u) : w'.cell? a = some u :=
  (World.cell?_of_block (w := w) (h.block a.block (World.block_lt_of_cell? w _ hc))).trans hc
theorem line_ne (x : Ln) (w : World) : (binOp .neq 55 (.agg #[.int .i64 x.op, .int .i64 x.a, .int .i64 x.b, .int .i64 x.c]) (.agg #[.int .i64 x.op, .int .i64 x.a, .int .i64 x.b, .int .i64 x.c])).run Try.prog w = .ok (.bool false) w := by
  rw [run_neq_struct]
  simp [go_sem, Try.underlying55, Try.underlying3]

set_option maxRecDepth 100000 in
set_option maxHeartbeats 4000000 in
theorem same_walk (s1 t1 s2 t2 : Value) (p : Lt) (w : World) (h1 : PHas w s1 t1 p) (h2 : PHas w s2 t2 p) (hs : smallB p = true) :
    Calls Try.prog 18 #[.agg #[s1, t1], .agg #[s2, t2]] w fun e w' => e = .returned (.bool true) ∧ Below w.heap.size w w' := by
  have htot : tot p p.threads.length ≤ 400 := of_decide_eq_true hs
  have hn4 : p.words.length ≤ 400 := by unfold tot at htot; omega
  have hT4 : p.threads.length ≤ 400 := by unfold tot at htot; omega
  have ht4 : ∀ k, k < p.threads.length → (p.threads.getD k []).length ≤ 400 := fun k hk => by
    have h1 := tot_succ p hk
    have h2 := tot_le p (k := k + 1) (by omega)
    omega
  clear htot hs
  have HT4 := Lib.hid ht4
  clear ht4
  obtain ⟨a1, c1, rfl⟩ := h1.words_shape
  obtain ⟨x1, y1, rfl⟩ := h1.threads.shape
  obtain ⟨a2, c2, rfl⟩ := h2.words_shape
  obtain ⟨x2, y2, rfl⟩ := h2.threads.shape
  have hR := RTwo.begin h1 h2
  clear h1 h2
  go_enter Try.func18, Try.ntmps18
  go_upto_region 1 with fail
  generalize (w.alloc (.cells #[.slice a1 p.words.length c1, .slice x1 p.threads.length y1] 25 (0, 0))).alloc (.cells #[.slice a2 p.words.length c2, .slice x2 p.threads.length y2] 25 (0, 0)) = w1 at hR ⊢
  generalize hN : w.heap.size = N at hR ⊢
  have HN := Lib.hid hN
  clear hN
  have q0 := hR.c0
  have r0 := hR.d0
  go_wp2_with fail
  refine (ints_walk _ _ p.words p.words w1 hR.h1.words hR.h2.words (by omega)).mono ?_
  rintro e w2 ⟨rfl, hb2⟩
  have hR2 := hR.more hb2
  clear hR hb2 q0 r0
  rw [decide_eq_true rfl]
  have q1 := hR2.c1
  have r1 := hR2.d1
  go_wp2_with fail
  clear q1 r1
  go_loopw [5] (fun kv wr => ∃ k : Nat, k ≤ p.threads.length ∧ kv = .int .i64 k ∧ RTwo w wr N (.slice a1 p.words.length c1) (.slice x1 p.threads.length y1) (.slice a2 p.words.length c2) (.slice x2 p.threads.length y2) p) (fun kv _ => p.threads.length - (intOf kv).toNat)
  case atStart => exact ⟨0, by omega, rfl, hR2⟩
  case round =>
    clear hR2
    obtain ⟨k, hk, rfl, hR⟩ := hrel
    have q1 := hR.c1
    have r1 := hR.d1
    by_cases hlt : k < p.threads.length
    · obtain ⟨b, o, c, tv, hv, hbl, hct, hL⟩ := hR.h1.threads.at' hlt
      cases hv
      obtain ⟨al, cl, rfl⟩ := hL.shape
      obtain ⟨b', o', c', tv', hv', hbl', hct', hL'⟩ := hR.h2.threads.at' hlt
      cases hv'
      obtain ⟨al', cl', rfl⟩ := hL'.shape
      have hle := HT4.out k hlt
      generalize p.threads.getD k [] = tt at hct hL hct' hL' hle
      go_wp2_with fail
      go_region
      go_wp2_with fail
      have hR5 := hR.more ((Below.refl _ _).drew)
      have hct5 : wr.drew.cell? ⟨b, o + k, none⟩ = some (.slice al tt.length cl) := hct
      have hct5' : wr.drew.cell? ⟨b', o' + k, none⟩ = some (.slice al' tt.length cl') := hct'
      have hL5 : Lines wr.drew (.slice al tt.length cl) tt := hL.same fun _ _ => rfl
      have hL5' : Lines wr.drew (.slice al' tt.length cl') tt := hL'.same fun _ _ => rfl
      clear hR hct hct' hL hL' q1 r1 hbl hbl'
      generalize wr.drew = w5 at hR5 hct5 hct5' hL5 hL5' ⊢
      have HR5 := Lib.hid hR5
      have HC := Lib.hid hct5
      have HC' := Lib.hid hct5'
      have HL := Lib.hid hL5
      have HL' := Lib.hid hL5'
      clear hR5 hct5 hct5' hL5 hL5'
      go_loopw [6] (fun iv wx => ∃ i : Nat, i ≤ tt.length ∧ iv = .int .i64 i ∧ Below w5.heap.size w5 wx) (fun iv _ => tt.length - (intOf iv).toNat)
      case atStart => exact ⟨0, by omega, rfl, Below.refl _ _⟩
      case round =>
        obtain ⟨i, hi, rfl, hB⟩ := hrel
        have hR := HR5.out.more hB
        have q1 := hR.c1
        have r1 := hR.d1
        have m1 := cell_belowb hB HC.out
        have m2 := cell_belowb hB HC'.out
        by_cases hil : i < tt.length
        · have hL := HL.out.same (w' := wr) (fun j hj => hB.block j hj)
          have hL' := HL'.out.same (w' := wr) (fun j hj => hB.block j hj)
          obtain ⟨b2, o2, e2, hv, _, l0, l1, l2, l3⟩ := hL.at' hil
          cases hv
          obtain ⟨b3, o3, e3, hv, _, k0, k1, k2, k3⟩ := hL'.at' hil
          cases hv
          generalize tt.getD i default = x at l0 l1 l2 l3 k0 k1 k2 k3
          have hne : ∀ w, (binOp .neq 55 (.agg #[.int .i64 x.op, .int .i64 x.a, .int .i64 x.b, .int .i64 x.c]) (.agg #[.int .i64 x.op, .int .i64 x.a, .int .i64 x.b, .int .i64 x.c])).run Try.prog w = .ok (.bool false) w := fun w => line_ne x w
          clear hL hL'
          go_wp2_with fail
          go_region
          go_wp2
          go_roundw
          case rel => exact ⟨i + 1, by omega, by go_num, hB.drew⟩
          case measure => simp [intOf]; omega
        · obtain rfl : i = tt.length := by omega
          go_wp2
          go_roundw
          case rel => exact ⟨k + 1, by omega, by go_num, hR⟩
          case measure => simp [intOf]; omega
    · obtain rfl : k = p.threads.length := by omega
      go_wp2
      go_ret
      exact ⟨rfl, by rw [HN.out]; exact hR.below⟩
end Go.Proofs.Ytmpgjnindbklaaa
