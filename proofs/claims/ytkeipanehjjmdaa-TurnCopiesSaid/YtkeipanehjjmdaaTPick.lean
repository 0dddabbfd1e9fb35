/-
  The contract of Order.Pick.
-/
import Derived.Test.YtkeipanehjjmdaaProg
import Derived.Test.YtkeipanehjjmdaaTIdx
import Derived.LoopTactic
import Derived.RegionTactic
import Derived.ChangeAlike
import Derived.BigRegion
namespace Go.Proofs.Ytkeipanehjjmdaa
open Go.RowKit BA TU
theorem info_int : (Try.prog.info? 3).map (fun i => (i.zero, i.size, i.bytes)) = some (some (.int .i64 0), 1, 8) := by kernel_rfl
/-- An order in memory: its block holds the slice of what is left, and who stepped last. -/
def OrdP (w : World) (T b : Nat) (lv : Value) (left : List Int) (last : Int) : Prop :=
  w.heap[b]? = some (.cells #[lv, .int .i64 last] T (0, 0)) ∧ Reads w lv (left.map (Value.int .i64)) ∧ lv.ownBlock ≠ some b
theorem OrdP.drew {w : World} {T b : Nat} {lv : Value} {left : List Int} {last : Int} (h : OrdP w T b lv left last) : OrdP w.drew T b lv left last := ⟨h.1, h.2.1.drew, h.2.2⟩
theorem bools_at {w : World} {l : List Bool} {b o k : Nat} (hb : ∀ i u, (bools l)[i]? = some u → w.cell? ⟨b, o + i, none⟩ = some u) (hk : k < l.length) : w.cell? ⟨b, o + k, none⟩ = some (.bool (l.getD k false)) := by
  apply hb
  simp [bools, hk]
/-- What a round of the gathering keeps. -/
structure Gath (w wr : World) (N ob : Nat) (l : List Bool) (v : Value) (k : Nat) : Prop where
  own : OwnS wr (N + 1) 1 v (rdyTo l k).length ((rdyTo l k).map fun (j : Nat) => Value.int .i64 (j : Int))
  below : Below N w wr
  big : N + 1 ≤ wr.heap.size
  box : wr.heap[N]? = some (.cells #[.pointer (some ⟨ob, 0, none⟩)] 26 (0, 0))
  blk : ∀ g, v.ownBlock = some g → N + 1 ≤ g
theorem Gath.hit {w wr w1 : World} {N ob : Nat} {l : List Bool} {v v' : Value} {k : Nat} {ob1 : Obj} (h : Gath w wr N ob l v k) (hk : l.getD k false = true)
    (h1 : OwnS w1 (N + 1) 1 v' ((rdyTo l k).length + 1) ((rdyTo l k).map (fun (j : Nat) => Value.int .i64 (j : Int)) ++ [.int .i64 k])) (h2 : (wr.alloc ob1).grownBy w1 v.ownBlock)
    (h3 : v'.ownBlock = v.ownBlock ∨ v'.ownBlock = none ∨ ∃ j, v'.ownBlock = some j ∧ wr.heap.size + 1 ≤ j) : Gath w w1 N ob l v' (k + 1) := by
  have hb := h.big
  have hs := h2.size
  simp at hs
  refine ⟨?_, ?_, by omega, ?_, ?_⟩
  · rw [rdyTo_hit l k hk]; simpa using h1
  · exact (h.below.alloc (by omega) _).grown h2 (by simp; omega) (fun g hg => by have := h.blk g hg; omega)
  · rw [h2.block N (by simp; omega) (fun e => by have := h.blk N e.symm; omega), Below.heap_alloc _ _ _ (by omega)]; exact h.box
  · intro g hg
    rcases h3 with h3 | h3 | ⟨j, h3, h4⟩
    · exact h.blk g (h3 ▸ hg)
    · rw [h3] at hg; cases hg
    · rw [h3] at hg; cases hg; omega
theorem Gath.miss {w wr : World} {N ob : Nat} {l : List Bool} {v : Value} {k : Nat} (h : Gath w wr N ob l v k) (hk : l.getD k false = false) : Gath w wr N ob l v (k + 1) :=
  ⟨by rw [rdyTo_miss l k hk]; exact h.own, h.below, h.big, h.box, h.blk⟩
theorem Gath.done {w wr : World} {N ob : Nat} {l : List Bool} {v : Value} (h : Gath w wr N ob l v l.length) :
    (rdy l = [] ∧ ∃ ao c, v = .slice ao 0 c) ∨
    (∃ rb ro rc, v = .slice (some ⟨rb, ro, none⟩) (rdy l).length rc ∧ 0 < (rdy l).length ∧ (rdy l).length ≤ rc ∧ N + 1 ≤ rb ∧ ∀ j, j < (rdy l).length → wr.cell? ⟨rb, ro + j, none⟩ = some (.int .i64 ((rdy l).getD j 0 : Nat))) := by
  have hR := h.own.reads
  rw [show rdyTo l l.length = rdy l from rfl] at hR
  rcases hR with ⟨hnil, ao, cc, hv, _, _⟩ | ⟨hne, rb, ro, rc, hv, hr1, hr2, hr3⟩
  · exact .inl ⟨by simpa using hnil, ao, cc, hv⟩
  · simp only [List.length_map] at hv hr1
    refine .inr ⟨rb, ro, rc, hv, ?_, hr1, h.blk rb (by rw [hv]; rfl), fun j hj => hr3 j _ (by simp [hj])⟩
    have : rdy l ≠ [] := by simpa using hne
    exact List.length_pos_iff.2 this
/-- What Pick leaves. -/
def PickPost (T : TypeId) (w : World) (ob : Nat) (lv : Value) (left : List Int) (last : Int) (L : List Nat) (e : Ending) (w' : World) : Prop :=
  e = .returned (.int .i64 (pickK left last L)) ∧ w.grownBy w' (some ob) ∧ ∃ lv', OrdP w' T ob lv' (pickLeft left L) (pickLast left last L) ∧ lv'.ownBlock = lv.ownBlock
theorem pick_end1 {w wr : World} {T : TypeId} {ob : Nat} {lv : Value} {left : List Int} {last k : Int} (HB : Below w.heap.size w wr) (hO : wr.heap[ob]? = some (.cells #[lv, .int .i64 last] T (0, 0)))
    (hR : Reads w lv (left.map (Value.int .i64))) (hne : lv.ownBlock ≠ some ob) :
    w.grownBy (wr.setCell ⟨ob, 1, none⟩ (.int .i64 k)) (some ob) ∧ OrdP (wr.setCell ⟨ob, 1, none⟩ (.int .i64 k)) T ob lv left k := by
  have hg := grown_of_below HB (grown_set wr ob 1 (.int .i64 k))
  refine ⟨hg, two_set1 hO, hR.same (fun j hj hlt => hg.block j hlt (fun e => hne (by rw [hj, e]))), hne⟩
theorem pick_end2 {w wr : World} {T : TypeId} {ob : Nat} {lv lv' : Value} {left : List Int} {last k : Int} (HB : Below w.heap.size w wr) (hO : wr.heap[ob]? = some (.cells #[lv, .int .i64 last] T (0, 0)))
    (hR : Reads w lv' (left.map (Value.int .i64))) (hne : lv'.ownBlock ≠ some ob) :
    w.grownBy ((wr.setCell ⟨ob, 0, none⟩ lv').setCell ⟨ob, 1, none⟩ (.int .i64 k)) (some ob) ∧ OrdP ((wr.setCell ⟨ob, 0, none⟩ lv').setCell ⟨ob, 1, none⟩ (.int .i64 k)) T ob lv' left k := by
  have hg := grown_trans (grown_of_below HB (grown_set wr ob 0 lv')) (grown_set _ ob 1 (.int .i64 k))
  refine ⟨hg, two_set1 (two_set0 hO), hR.same (fun j hj hlt => hg.block j hlt (fun e => hne (by rw [hj, e]))), hne⟩
theorem reads_tail {w : World} {lb lo lc : Nat} {t : Int} {rest : List Int} (h1 : rest.length + 1 ≤ lc) (h2 : lc ≤ maxLen)
    (h : ∀ i u, (List.map (Value.int .i64) (t :: rest))[i]? = some u → w.cell? ⟨lb, lo + i, none⟩ = some u) :
    Reads w (.slice (if lc = 1 then some ⟨lb, lo, none⟩ else some ⟨lb, lo + 1, none⟩) rest.length (lc - 1)) (rest.map (Value.int .i64)) := by
  by_cases hr : rest = []
  · subst hr
    exact .inl ⟨rfl, _, _, rfl, by omega, fun h => by split at h <;> cases h⟩
  · have hp := List.length_pos_iff.2 hr
    refine .inr ⟨by simpa using hr, lb, lo + 1, lc - 1, by rw [if_neg (by omega)]; simp, by simp; omega, by omega, fun i u hu => ?_⟩
    have := h (i + 1) u (by simpa using hu)
    rw [show lo + 1 + i = lo + (i + 1) by omega]; exact this
set_option maxRecDepth 100000 in
set_option maxHeartbeats 1000000 in
theorem pick_some (ob : Nat) (lv : Value) (left : List Int) (last : Int) (l : List Bool) (b o c : Nat) (w : World) (ho : OrdP w 53 ob lv left last)
    (hb : ∀ i u, (bools l)[i]? = some u → w.cell? ⟨b, o + i, none⟩ = some u) (hlen : l.length ≤ 1000000000) (hbN : b < w.heap.size) (hobN : ob < w.heap.size) (hlv : ∀ k, lv.ownBlock = some k → left ≠ [] → k < w.heap.size) :
    Calls Try.prog 16 #[.pointer (some ⟨ob, 0, none⟩), .slice (some ⟨b, o, none⟩) l.length c] w (PickPost 53 w ob lv left last (rdy l)) := by
  obtain ⟨i0, hi, hz0, hz1, hz2⟩ := info_parts info_int
  have HB := Lib.hid hb
  clear hb
  go_enter Try.func16, Try.ntmps16
  go_wp2
  have hG : Gath w ((w.alloc (Obj.cells #[Value.pointer (some ⟨ob, 0, none⟩)] 26)).alloc (Obj.cells #[Value.int .i64 0, Value.int .i64 0, Value.int .i64 0, Value.int .i64 0, Value.int .i64 0, Value.int .i64 0, Value.int .i64 0, Value.int .i64 0] 56)) w.heap.size ob l (.slice (some ⟨w.heap.size + 1, 0, none⟩) 0 8) 0 :=
    ⟨⟨_, by have := World.ownsRow_made (base := w.heap.size + 1) (e := 56) (size := 1) (w.alloc (Obj.cells #[Value.pointer (some ⟨ob, 0, none⟩)] 26)) #[Value.int .i64 0, Value.int .i64 0, Value.int .i64 0, Value.int .i64 0, Value.int .i64 0, Value.int .i64 0, Value.int .i64 0, Value.int .i64 0] 8 (by simp) (by unfold maxLen; omega) (by simp); simpa [rdyTo_zero] using this⟩,
      ((Below.refl _ _).alloc (Nat.le_refl _) _).alloc (by simp) _, by simp, by rw [Below.heap_alloc _ _ _ (by simp)]; exact heap_alloc_new _ _, fun g hg => by cases hg; exact Nat.le_refl _⟩
  generalize (w.alloc (Obj.cells #[Value.pointer (some ⟨ob, 0, none⟩)] 26)).alloc (Obj.cells #[Value.int .i64 0, Value.int .i64 0, Value.int .i64 0, Value.int .i64 0, Value.int .i64 0, Value.int .i64 0, Value.int .i64 0, Value.int .i64 0] 56) = W at *
  generalize hN : w.heap.size = N at *
  have HNN := Lib.hid hN
  clear hN
  go_loopw [6, 15] (fun v i wr => ∃ k : Nat, k ≤ l.length ∧ i = .int .i64 k ∧ Gath w wr N ob l v k) (fun _ i _ => l.length - (intOf i).toNat)
  case atStart => exact ⟨0, by omega, rfl, hG⟩
  case round =>
    clear hG
    obtain ⟨k, hk, rfl, hG⟩ := hrel
    by_cases hlt : k < l.length
    · have hlen2 := rdyTo_le l k
      have hbig := hG.big
      cases hv : l.getD k false with
      | true =>
        have hcx : wr.cell? ⟨b, o + k, none⟩ = some (.bool true) := by rw [hG.below.cell (by exact hbN)]; rw [← hv]; exact bools_at HB.out hlt
        have HV := Lib.hid hv
        clear hv
        go_wp2_with (first
          | (at_builtin; refine wpList_append_ownS _ rfl _ _ 22 rfl (N + 1) 3 i0 (.int .i64 0) 1 8 Try.underlying22 hi hz0 hz1 hz2 rfl (by decide) _ _ _ rfl (hG.own.alloc _) ⟨wr.heap.size, 0, none⟩ 1 1 [.int .i64 k] rfl rfl ?c1 ?c2 ?c3 ?c4 ?c5 ?_)
          | go_in)
        case c1 => exact cell_one_new _ _ _
        case c2 => intro u hu; simp at hu; subst hu; rfl
        case c3 => unfold maxLen; omega
        case c4 => omega
        case c5 => simp; omega
        intro v' w1 h1 h2 h3
        have hG' := hG.hit HV.out h1 h2 h3
        clear h1 h2 h3 hG hcx
        go_wp2
        go_roundw
        case rel => exact ⟨k + 1, by omega, by go_num, hG'⟩
        case measure => simp [intOf]; omega
      | false =>
        have hcx : wr.cell? ⟨b, o + k, none⟩ = some (.bool false) := by rw [hG.below.cell (by exact hbN)]; rw [← hv]; exact bools_at HB.out hlt
        have HV := Lib.hid hv
        clear hv
        go_wp2
        go_roundw
        case rel => exact ⟨k + 1, by omega, by go_num, hG.miss HV.out⟩
        case measure => simp [intOf]; omega
    · obtain rfl : k = l.length := by omega
      obtain ⟨g1, g2, g3⟩ := ho
      have hbx : wr.cell? ⟨N, 0, none⟩ = some (.pointer (some ⟨ob, 0, none⟩)) := cell_of_one hG.box
      have hO : wr.heap[ob]? = some (.cells #[lv, .int .i64 last] 53 (0, 0)) := by rw [hG.below.block ob hobN]; exact g1
      have hc1 : wr.cell? ⟨ob, 0, none⟩ = some lv := by simp [World.cell?, hO]
      have hc2 : wr.cell? ⟨ob, 1, none⟩ = some (.int .i64 last) := by simp [World.cell?, hO]
      have hz1 : wr.frozen? ⟨ob, 0, none⟩ = false := by simp [World.frozen?, hO]
      have hz2 : wr.frozen? ⟨ob, 1, none⟩ = false := by simp [World.frozen?, hO]
      have hD := hG.done
      have HB := hG.below
      have HB' : Below w.heap.size w wr := by rw [HNN.out]; exact HB
      have hlenL : (rdy l).length ≤ l.length := rdyTo_le l l.length
      clear hG
      generalize rdy l = L at *
      rcases hD with ⟨rfl, ao, cc, rfl⟩ | ⟨rb, ro, rc, rfl, hpos, hcap, hrb, hr3⟩
      · go_wp2
        go_ret
        exact ⟨rfl, grown_of_below HB' (World.grownBy.refl _ _), lv, ⟨hO, g2.same fun j _ hlt => HB'.block j hlt, g3⟩, rfl⟩
      · have hnz : ((L.length : Int) == 0) = false := by rw [beq_eq_false_iff_ne]; omega
        cases left with
        | nil =>
          rcases g2 with ⟨_, lo, lc, rfl, hl1, hl2⟩ | ⟨h, _⟩
          · have HR := Lib.hid hr3
            clear hr3
            have hix := ix_any last L hpos
            obtain ⟨x, hxl, hmx, hnx⟩ := hix
            have hcx := HR.out x hxl
            have HN := Lib.hid hnx
            clear hnx
            go_wp2_with (go_at_call 41; refine (indexFunc_turn _ _ _ _ ob L last _ (by omega) HR.out (by assumption) (by assumption)).mono ?_; rintro e w' ⟨rfl, rfl⟩)
            go_region
            go_wp2
            go_ret
            have hne : L ≠ [] := List.length_pos_iff.1 hpos
            have hk : ((L[x] : Nat) : Int) = pickK [] last L := by
              rw [pickK, if_neg hne]
              show _ = ((nxt last L : Nat) : Int)
              rw [HN.out]; simp [hxl]
            have hend := pick_end1 (w := w) (wr := wr) (left := []) (k := ((L[x] : Nat) : Int)) HB' hO (.inl ⟨rfl, _, _, rfl, hl1, hl2⟩) g3
            refine ⟨ret1 hk, grown_drew hend.1, _, ?_, rfl⟩
            rw [pickLeft, pickLast, if_neg hne, if_neg hne, ← hk]
            exact hend.2.drew
          · simp at h
        | cons t rest =>
          rcases g2 with ⟨h, _⟩ | ⟨_, lb, lo, lc, rfl, hl1, hl2, hl3⟩
          · simp at h
          have hlbN : lb < N := hlv lb rfl (by simp)
          have hlob : lb ≠ ob := fun e => g3 (by rw [← e]; rfl)
          have hcl : wr.cell? ⟨lb, lo, none⟩ = some (.int .i64 t) := by
            rw [HB.cell (by exact hlbN)]; exact hl3 0 _ rfl
          simp only [List.length_map, List.length_cons] at *
          have HR := Lib.hid hr3
          have HL := Lib.hid hl3
          clear hr3 hl3
          obtain ⟨x, hx⟩ : ∃ x, at_ t L.length = x := ⟨_, rfl⟩
          have hxl : x < L.length := by rw [← hx]; exact at_lt t L.length hpos
          have hcx := HR.out x hxl
          have hbd := at_bd t L.length hpos
          obtain ⟨hm2, hm1, hm3, hm4⟩ := hbd
          have hxe : (t.tmod (L.length : Int) + (L.length : Int)) % (L.length : Int) = (x : Int) := by rw [← hx, at_, Int.toNat_of_nonneg hm3]
          have HX := Lib.hid hx
          clear hx hm3 hm4
          have hsh : (1 : Int) ≤ (rest.length : Int) + 1 := by omega
          go_wp2
          generalize hwx : wr = wx at *
          go_region
          obtain ⟨lv', hlv'⟩ : ∃ x, Value.slice (if lc = 1 then some ⟨lb, lo, none⟩ else some ⟨lb, lo + 1, none⟩) rest.length (lc - 1) = x := ⟨_, rfl⟩
          rw [hlv']
          have HLV := Lib.hid hlv'
          clear hlv'
          go_wp2
          go_region
          go_wp2
          go_ret
          have hne : L ≠ [] := List.length_pos_iff.1 hpos
          have hk : ((L[x] : Nat) : Int) = pickK (t :: rest) last L := by
            rw [pickK, if_neg hne]
            show _ = ((L.getD (at_ t L.length) 0 : Nat) : Int)
            rw [HX.out]; simp [hxl]
          have hend := pick_end2 (w := w) (wr := wx) (lv' := lv') (left := rest) (k := ((L[x] : Nat) : Int)) HB' hO (by rw [← HLV.out]; exact reads_tail hl1 hl2 HL.out) (by rw [← HLV.out]; split <;> (intro h; cases h; exact hlob rfl))
          refine ⟨ret1 hk, grown_drew (grown_drew hend.1), lv', ?_, by rw [← HLV.out]; split <;> rfl⟩
          rw [pickLeft, pickLast, if_neg hne, if_neg hne, ← hk]
          exact hend.2.drew.drew
set_option maxRecDepth 100000 in
set_option maxHeartbeats 1000000 in
theorem pick_nil (ob : Nat) (lv : Value) (left : List Int) (last : Int) (ao : Option Addr) (c : Nat) (w : World) (ho : OrdP w 53 ob lv left last) :
    Calls Try.prog 16 #[.pointer (some ⟨ob, 0, none⟩), .slice ao 0 c] w (PickPost 53 w ob lv left last []) := by
  go_enter Try.func16, Try.ntmps16
  go_wp2
  go_loop [6, 15] (fun v i => v = .slice (some ⟨w.heap.size + 1, 0, none⟩) 0 8 ∧ i = .int .i64 0) (fun _ _ => 0)
  case atStart => exact ⟨rfl, rfl⟩
  case round =>
    obtain ⟨rfl, rfl⟩ := hrel
    go_wp2
    go_ret
    have HB' : Below w.heap.size w ((w.alloc (Obj.cells #[Value.pointer (some ⟨ob, 0, none⟩)] 26)).alloc (Obj.cells #[Value.int .i64 0, Value.int .i64 0, Value.int .i64 0, Value.int .i64 0, Value.int .i64 0, Value.int .i64 0, Value.int .i64 0, Value.int .i64 0] 56)) :=
      ((Below.refl _ _).alloc (Nat.le_refl _) _).alloc (by simp) _
    exact ⟨rfl, grown_of_below HB' (World.grownBy.refl _ _), lv, ⟨(HB'.block ob (lt_of_block ho.1)).trans ho.1, ho.2.1.same fun j _ hlt => HB'.block j hlt, ho.2.2⟩, rfl⟩
/-- Pick, of whatever order, whoever is ready (no more than a billion). -/
theorem pick_any (ob : Nat) (lv rv : Value) (left : List Int) (last : Int) (l : List Bool) (w : World) (ho : OrdP w 53 ob lv left last) (hr : Reads w rv (bools l)) (hlen : l.length ≤ 1000000000) :
    Calls Try.prog 16 #[.pointer (some ⟨ob, 0, none⟩), rv] w (PickPost 53 w ob lv left last (rdy l)) := by
  rcases hr with ⟨hnil, ao, c, rfl, _, _⟩ | ⟨hne, b, o, c, rfl, h1, h2, h3⟩
  · obtain rfl : l = [] := by simpa [bools] using hnil
    exact pick_nil ob lv left last ao c w ho
  · have hb : (bools l).length = l.length := by simp [bools]
    rw [hb]
    have hl0 : 0 < l.length := by rw [← hb]; exact List.length_pos_iff.2 hne
    have hc := bools_at h3 hl0
    refine pick_some ob lv left last l b o c w ho h3 hlen (World.block_lt_of_cell? w _ hc) (lt_of_block ho.1) fun k hk hleft => ?_
    rcases ho.2.1 with ⟨hx, _⟩ | ⟨_, lb, lo, lc, hv, _, _, hcells⟩
    · exact absurd (by simpa using hx) hleft
    · rw [hv] at hk
      cases hk
      cases left with
      | nil => exact absurd rfl hleft
      | cons t r => exact World.block_lt_of_cell? w _ (hcells 0 _ rfl)
end Go.Proofs.Ytkeipanehjjmdaa
