/-
  The contract of the reference's Pick.
-/
import Derived.Test.YtkeipanehjjmdaaTPick
import Derived.BigQuiet
namespace Go.Proofs.Ytkeipanehjjmdaa
open Go.RowKit BA TU
/-- The same memory: nothing has been done but draws. -/
structure SameMem (a b : World) : Prop where
  heap : b.heap = a.heap
  os : b.os = a.os
  tape : b.tape = a.tape
  output : b.output = a.output
theorem SameMem.refl (a : World) : SameMem a a := ⟨rfl, rfl, rfl, rfl⟩
theorem SameMem.drewN {a b : World} (h : SameMem a b) (n : Nat) : SameMem a (b.drewN n) := ⟨h.heap, h.os, h.tape, h.output⟩
theorem SameMem.cell {a b : World} (h : SameMem a b) (x : Addr) : b.cell? x = a.cell? x := by unfold World.cell?; rw [h.heap]
theorem SameMem.frozen {a b : World} (h : SameMem a b) (x : Addr) : b.frozen? x = a.frozen? x := by unfold World.frozen?; rw [h.heap]
theorem SameMem.below {B : Nat} {a b c : World} (h : SameMem b c) (k : Below B a b) : Below B a c := ⟨h.os.trans k.os, h.tape.trans k.tape, h.output.trans k.output, by rw [h.heap]; exact k.size, fun i hi => by rw [h.heap]; exact k.block i hi⟩
/-- What the reference's search from the end has seen from place m on. -/
def Seen (last : Int) (L : List Nat) (m : Nat) (k : Int) : Prop :=
  ((∀ j, m ≤ j → j < L.length → ((L.getD j 0 : Nat) : Int) ≤ last) ∧ k = (L.getD 0 0 : Nat)) ∨
  ∃ j, m ≤ j ∧ j < L.length ∧ last < (L.getD j 0 : Nat) ∧ (∀ i, m ≤ i → i < j → ((L.getD i 0 : Nat) : Int) ≤ last) ∧ k = (L.getD j 0 : Nat)
theorem Seen.begin (last : Int) (L : List Nat) : Seen last L L.length (L.getD 0 0 : Nat) := .inl ⟨fun j h1 h2 => by omega, rfl⟩
theorem Seen.hit {last : Int} {L : List Nat} {m : Nat} (hm : m < L.length) (h : last < (L.getD m 0 : Nat)) : Seen last L m (L.getD m 0 : Nat) := .inr ⟨m, Nat.le_refl _, hm, h, fun i h1 h2 => by omega, rfl⟩
theorem Seen.miss {last : Int} {L : List Nat} {m : Nat} {k : Int} (h : ((L.getD m 0 : Nat) : Int) ≤ last) (hs : Seen last L (m + 1) k) : Seen last L m k := by
  rcases hs with ⟨h1, rfl⟩ | ⟨j, h1, h2, h3, h4, rfl⟩
  · exact .inl ⟨fun j a b => by
      by_cases e : j = m
      · rw [e]; exact h
      · exact h1 j (by omega) b, rfl⟩
  · exact .inr ⟨j, by omega, h2, h3, fun i a b => by
      by_cases e : i = m
      · rw [e]; exact h
      · exact h4 i (by omega) b, rfl⟩
theorem Seen.done {last : Int} {L : List Nat} {k : Int} (h : Seen last L 0 k) : k = (nxt last L : Nat) := by
  rcases h with ⟨h1, rfl⟩ | ⟨j, _, h2, h3, h4, rfl⟩
  · rw [(ix_none last L fun j hj => h1 j (by omega) hj).2]
  · rw [(ix_hit last L j h2 h3 fun i hi => h4 i (by omega) hi).2]
/-- What a round of the reference's gathering keeps. -/
structure RGath (w wr : World) (N : Nat) (l : List Bool) (v : Value) (k : Nat) : Prop where
  own : OwnS wr N 1 v (rdyTo l k).length ((rdyTo l k).map fun (j : Nat) => Value.int .i64 (j : Int))
  below : Below N w wr
  big : N ≤ wr.heap.size
  blk : ∀ g, v.ownBlock = some g → N ≤ g
theorem RGath.hit {w wr w1 : World} {N : Nat} {l : List Bool} {v v' : Value} {k : Nat} {ob1 : Obj} (h : RGath w wr N l v k) (hk : l.getD k false = true)
    (h1 : OwnS w1 N 1 v' ((rdyTo l k).length + 1) ((rdyTo l k).map (fun (j : Nat) => Value.int .i64 (j : Int)) ++ [.int .i64 k])) (h2 : (wr.alloc ob1).grownBy w1 v.ownBlock)
    (h3 : v'.ownBlock = v.ownBlock ∨ v'.ownBlock = none ∨ ∃ j, v'.ownBlock = some j ∧ wr.heap.size + 1 ≤ j) : RGath w w1 N l v' (k + 1) := by
  have hb := h.big
  have hs := h2.size
  simp at hs
  refine ⟨?_, ?_, by omega, ?_⟩
  · rw [rdyTo_hit l k hk]; simpa using h1
  · exact (h.below.alloc (by omega) _).grown h2 (by simp; omega) (fun g hg => by have := h.blk g hg; omega)
  · intro g hg
    rcases h3 with h3 | h3 | ⟨j, h3, h4⟩
    · exact h.blk g (h3 ▸ hg)
    · rw [h3] at hg; cases hg
    · rw [h3] at hg; cases hg; omega
theorem RGath.miss {w wr : World} {N : Nat} {l : List Bool} {v : Value} {k : Nat} (h : RGath w wr N l v k) (hk : l.getD k false = false) : RGath w wr N l v (k + 1) :=
  ⟨by rw [rdyTo_miss l k hk]; exact h.own, h.below, h.big, h.blk⟩
theorem RGath.done {w wr : World} {N : Nat} {l : List Bool} {v : Value} (h : RGath w wr N l v l.length) :
    (rdy l = [] ∧ ∃ ao c, v = .slice ao 0 c) ∨
    (∃ rb ro rc, v = .slice (some ⟨rb, ro, none⟩) (rdy l).length rc ∧ 0 < (rdy l).length ∧ (rdy l).length ≤ rc ∧ N ≤ rb ∧ ∀ j, j < (rdy l).length → wr.cell? ⟨rb, ro + j, none⟩ = some (.int .i64 ((rdy l).getD j 0 : Nat))) := by
  have hR := h.own.reads
  rw [show rdyTo l l.length = rdy l from rfl] at hR
  rcases hR with ⟨hnil, ao, cc, hv, _, _⟩ | ⟨hne, rb, ro, rc, hv, hr1, hr2, hr3⟩
  · exact .inl ⟨by simpa using hnil, ao, cc, hv⟩
  · simp only [List.length_map] at hv hr1
    refine .inr ⟨rb, ro, rc, hv, ?_, hr1, h.blk rb (by rw [hv]; rfl), fun j hj => hr3 j _ (by simp [hj])⟩
    have : rdy l ≠ [] := by simpa using hne
    exact List.length_pos_iff.2 this
set_option maxRecDepth 100000 in
set_option maxHeartbeats 2000000 in
theorem rpick_some (ob : Nat) (lv : Value) (left : List Int) (last : Int) (l : List Bool) (b o c : Nat) (w : World) (ho : OrdP w 55 ob lv left last)
    (hb : ∀ i u, (bools l)[i]? = some u → w.cell? ⟨b, o + i, none⟩ = some u) (hlen : l.length ≤ 1000000000) (hbN : b < w.heap.size) (hobN : ob < w.heap.size) (hlv : ∀ k, lv.ownBlock = some k → left ≠ [] → k < w.heap.size) :
    Calls Try.prog 17 #[.pointer (some ⟨ob, 0, none⟩), .slice (some ⟨b, o, none⟩) l.length c] w (PickPost 55 w ob lv left last (rdy l)) := by
  obtain ⟨i0, hi, hz0, hz1, hz2⟩ := info_parts info_int
  have HB := Lib.hid hb
  clear hb
  go_enter Try.func17, Try.ntmps17
  go_wp2
  have hG : RGath w w w.heap.size l (.slice none 0 0) 0 := ⟨⟨3, World.ownsRow_nil _ _ _ _⟩, Below.refl _ _, Nat.le_refl _, fun g hg => by cases hg⟩
  generalize hN : w.heap.size = N at *
  have HNN := Lib.hid hN
  clear hN
  go_loopw [5, 6] (fun v i wr => ∃ k : Nat, k ≤ l.length ∧ i = .int .i64 k ∧ RGath w wr N l v k) (fun _ i _ => l.length - (intOf i).toNat)
  case atStart => exact ⟨0, by omega, rfl, hG⟩
  case round =>
    clear hG
    obtain ⟨k, hk, rfl, hG⟩ := hrel
    by_cases hlt : k < l.length
    · have hlen2 := rdyTo_le l k
      have hbig := hG.big
      cases hv : l.getD k false with
      | true =>
        have hcx : wr.cell? ⟨b, o + k, none⟩ = some (.bool true) := by rw [hG.below.cell (by exact hbN)]; rw [← hv]; exact bools_at HB.out hlt
        have HV := Lib.hid hv
        clear hv
        go_wp2_with (first
          | (at_builtin; refine wpList_append_ownS _ rfl _ _ 22 rfl N 3 i0 (.int .i64 0) 1 8 Try.underlying22 hi hz0 hz1 hz2 rfl (by decide) _ _ _ rfl (hG.own.alloc _) ⟨wr.heap.size, 0, none⟩ 1 1 [.int .i64 k] rfl rfl ?c1 ?c2 ?c3 ?c4 ?c5 ?_)
          | go_in)
        case c1 => exact cell_one_new _ _ _
        case c2 => intro u hu; simp at hu; subst hu; rfl
        case c3 => unfold maxLen; omega
        case c4 => omega
        case c5 => simp; omega
        intro v' w1 h1 h2 h3
        have hG' := hG.hit HV.out h1 h2 h3
        clear h1 h2 h3 hG hcx
        go_wp2
        go_roundw
        case rel => exact ⟨k + 1, by omega, by go_num, hG'⟩
        case measure => simp [intOf]; omega
      | false =>
        have hcx : wr.cell? ⟨b, o + k, none⟩ = some (.bool false) := by rw [hG.below.cell (by exact hbN)]; rw [← hv]; exact bools_at HB.out hlt
        have HV := Lib.hid hv
        clear hv
        go_wp2
        go_roundw
        case rel => exact ⟨k + 1, by omega, by go_num, hG.miss HV.out⟩
        case measure => simp [intOf]; omega
    · obtain rfl : k = l.length := by omega
      obtain ⟨g1, g2, g3⟩ := ho
      have hO : wr.heap[ob]? = some (.cells #[lv, .int .i64 last] 55 (0, 0)) := by rw [hG.below.block ob hobN]; exact g1
      have hc1 : wr.cell? ⟨ob, 0, none⟩ = some lv := by simp [World.cell?, hO]
      have hc2 : wr.cell? ⟨ob, 1, none⟩ = some (.int .i64 last) := by simp [World.cell?, hO]
      have hz1 : wr.frozen? ⟨ob, 0, none⟩ = false := by simp [World.frozen?, hO]
      have hz2 : wr.frozen? ⟨ob, 1, none⟩ = false := by simp [World.frozen?, hO]
      have hD := hG.done
      have HB := hG.below
      have HB' : Below w.heap.size w wr := by rw [HNN.out]; exact HB
      have hlenL : (rdy l).length ≤ l.length := rdyTo_le l l.length
      clear hG
      generalize rdy l = L at *
      rcases hD with ⟨rfl, ao, cc, rfl⟩ | ⟨rb, ro, rc, rfl, hpos, hcap, hrb, hr3⟩
      · go_wp2
        go_ret
        exact ⟨rfl, grown_of_below HB' (World.grownBy.refl _ _), lv, ⟨hO, g2.same fun j _ hlt => HB'.block j hlt, g3⟩, rfl⟩
      · have hnz : ((L.length : Int) == 0) = false := by rw [beq_eq_false_iff_ne]; omega
        have HR := Lib.hid hr3
        have hcf := hr3 0 hpos
        clear hr3
        cases left with
        | nil =>
          rcases g2 with ⟨_, lo, lc, rfl, hl1, hl2⟩ | ⟨h, _⟩
          · obtain ⟨f0, hf0⟩ : ∃ f0, L.getD 0 0 = f0 := ⟨_, rfl⟩
            rw [hf0] at hcf
            have HF := Lib.hid hf0
            clear hf0
            have hcf' : wr.cell? ⟨rb, ro, none⟩ = some (.int .i64 (f0 : Nat)) := hcf
            go_wp2
            clear hcf hcf'
            obtain ⟨wo, rfl⟩ : ∃ wo : World, wo = wr := ⟨_, rfl⟩
            go_loopw [7, 8] (fun kv i wx => ∃ (m : Nat) (k : Int), m ≤ L.length ∧ i = .int .i64 ((m : Int) - 1) ∧ kv = .int .i64 k ∧ SameMem wo wx ∧ Hid (Seen last L m k)) (fun _ i _ => (intOf i + 1).toNat)
            case atStart => exact ⟨L.length, _, Nat.le_refl _, rfl, rfl, SameMem.refl _, by rw [← HF.out]; exact Lib.hid (Seen.begin last L)⟩
            case round =>
              obtain ⟨m, k, hm, rfl, rfl, hsm, hseen⟩ := hrel
              have hc2' := (hsm.cell ⟨ob, 1, none⟩).trans hc2
              cases m with
              | zero =>
                have hO' := (congrArg (·[ob]?) hsm.heap).trans hO
                have hz2' := (hsm.frozen ⟨ob, 1, none⟩).trans hz2
                have hke := Lib.hid (Seen.done hseen.out)
                go_wp2
                go_ret
                have hne : L ≠ [] := List.length_pos_iff.1 hpos
                have hk : k = pickK [] last L := by
                  rw [pickK, if_neg hne]
                  exact hke.out
                have hend := pick_end1 (w := w) (wr := wr) (left := []) (k := k) (hsm.below HB') hO' (.inl ⟨rfl, _, _, rfl, hl1, hl2⟩) g3
                refine ⟨ret1 hk, hend.1, _, ?_, rfl⟩
                rw [pickLeft, pickLast, if_neg hne, if_neg hne, ← hk]
                exact hend.2
              | succ m =>
                have hcm := (hsm.cell _).trans (HR.out m (by omega))
                obtain ⟨y, hy⟩ : ∃ y, L.getD m 0 = y := ⟨_, rfl⟩
                rw [hy] at hcm
                have HY := Lib.hid hy
                clear hy
                have hi1 : (0 : Int) ≤ (m : Int) := by omega
                have hi2 : (m : Int) < (L.length : Int) := by omega
                by_cases hit : last < (y : Int)
                · go_wp2
                  go_quiet (fail)
                  go_wp2
                  go_roundw
                  case rel => exact ⟨m, y, by omega, rfl, rfl, hsm.drewN _, by rw [← HY.out]; exact Lib.hid (Seen.hit (by omega) (by rw [HY.out]; exact hit))⟩
                  case measure => simp [intOf]
                · go_wp2
                  go_quiet (fail)
                  go_wp2
                  go_roundw
                  case rel => exact ⟨m, k, by omega, rfl, rfl, hsm.drewN _, Lib.hid (Seen.miss (by rw [HY.out]; omega) hseen.out)⟩
                  case measure => simp [intOf]
          · simp at h
        | cons t rest =>
          rcases g2 with ⟨h, _⟩ | ⟨_, lb, lo, lc, rfl, hl1, hl2, hl3⟩
          · simp at h
          have hlbN : lb < N := hlv lb rfl (by simp)
          have hlob : lb ≠ ob := fun e => g3 (by rw [← e]; rfl)
          have hcl : wr.cell? ⟨lb, lo, none⟩ = some (.int .i64 t) := by
            rw [HB.cell (by exact hlbN)]; exact hl3 0 _ rfl
          simp only [List.length_map, List.length_cons] at *
          have HL := Lib.hid hl3
          clear hl3
          obtain ⟨x, hx⟩ : ∃ x, at_ t L.length = x := ⟨_, rfl⟩
          have hxl : x < L.length := by rw [← hx]; exact at_lt t L.length hpos
          have hcx := HR.out x hxl
          have hbd := at_bd t L.length hpos
          obtain ⟨hm2, hm1, hm3, hm4⟩ := hbd
          have hxe : (t.tmod (L.length : Int) + (L.length : Int)) % (L.length : Int) = (x : Int) := by rw [← hx, at_, Int.toNat_of_nonneg hm3]
          have HX := Lib.hid hx
          clear hx hm3 hm4
          have hsh : (1 : Int) ≤ (rest.length : Int) + 1 := by omega
          have hcf' : wr.cell? ⟨rb, ro, none⟩ = some (.int .i64 (L.getD 0 0 : Nat)) := hcf
          clear hcf
          generalize hwx : wr = wx at *
          have hne : L ≠ [] := List.length_pos_iff.1 hpos
          have hk : ((L[x] : Nat) : Int) = pickK (t :: rest) last L := by
            rw [pickK, if_neg hne]
            show _ = ((L.getD (at_ t L.length) 0 : Nat) : Int)
            rw [HX.out]; simp [hxl]
          have HK := Lib.hid hk
          have HT := Lib.hid (reads_tail (w := w) hl1 hl2 HL.out)
          clear hk
          by_cases hlc : lc = 1
          · subst hlc
            obtain rfl : rest = [] := List.eq_nil_of_length_eq_zero (by omega)
            go_wp2
            go_ret
            have hend := pick_end2 (w := w) (wr := wx) (lv' := .slice (some ⟨lb, lo, none⟩) 0 0) (left := []) (k := ((L[x] : Nat) : Int)) HB' hO HT.out (by intro h; cases h; exact hlob rfl)
            refine ⟨ret1 HK.out, hend.1, .slice (some ⟨lb, lo, none⟩) 0 0, ?_, rfl⟩
            rw [pickLeft, pickLast, if_neg hne, if_neg hne, ← HK.out]
            exact hend.2
          · go_wp2
            go_ret
            have hT := HT.out
            rw [if_neg hlc] at hT
            have hend := pick_end2 (w := w) (wr := wx) (lv' := .slice (some ⟨lb, lo + 1, none⟩) rest.length (lc - 1)) (left := rest) (k := ((L[x] : Nat) : Int)) HB' hO hT (by intro h; cases h; exact hlob rfl)
            refine ⟨ret1 HK.out, hend.1, .slice (some ⟨lb, lo + 1, none⟩) rest.length (lc - 1), ?_, rfl⟩
            rw [pickLeft, pickLast, if_neg hne, if_neg hne, ← HK.out]
            exact hend.2
set_option maxRecDepth 100000 in
set_option maxHeartbeats 1000000 in
theorem rpick_nil (ob : Nat) (lv : Value) (left : List Int) (last : Int) (ao : Option Addr) (c : Nat) (w : World) (ho : OrdP w 55 ob lv left last) :
    Calls Try.prog 17 #[.pointer (some ⟨ob, 0, none⟩), .slice ao 0 c] w (PickPost 55 w ob lv left last []) := by
  go_enter Try.func17, Try.ntmps17
  go_wp2
  go_loop [5, 6] (fun v i => v = .slice none 0 0 ∧ i = .int .i64 0) (fun _ _ => 0)
  case atStart => exact ⟨rfl, rfl⟩
  case round =>
    obtain ⟨rfl, rfl⟩ := hrel
    go_wp2
    go_ret
    exact ⟨rfl, World.grownBy.refl _ _, lv, ho, rfl⟩
theorem rpick_any (ob : Nat) (lv rv : Value) (left : List Int) (last : Int) (l : List Bool) (w : World) (ho : OrdP w 55 ob lv left last) (hr : Reads w rv (bools l)) (hlen : l.length ≤ 1000000000) :
    Calls Try.prog 17 #[.pointer (some ⟨ob, 0, none⟩), rv] w (PickPost 55 w ob lv left last (rdy l)) := by
  rcases hr with ⟨hnil, ao, c, rfl, _, _⟩ | ⟨hne, b, o, c, rfl, h1, h2, h3⟩
  · obtain rfl : l = [] := by simpa [bools] using hnil
    exact rpick_nil ob lv left last ao c w ho
  · have hb : (bools l).length = l.length := by simp [bools]
    rw [hb]
    have hl0 : 0 < l.length := by rw [← hb]; exact List.length_pos_iff.2 hne
    have hc := bools_at h3 hl0
    refine rpick_some ob lv left last l b o c w ho h3 hlen (World.block_lt_of_cell? w _ hc) (lt_of_block ho.1) fun k hk hleft => ?_
    rcases ho.2.1 with ⟨hx, _⟩ | ⟨_, lb, lo, lc, hv, _, _, hcells⟩
    · exact absurd (by simpa using hx) hleft
    · rw [hv] at hk
      cases hk
      cases left with
      | nil => exact absurd rfl hleft
      | cons t r => exact World.block_lt_of_cell? w _ (hcells 0 _ rfl)
end Go.Proofs.Ytkeipanehjjmdaa
