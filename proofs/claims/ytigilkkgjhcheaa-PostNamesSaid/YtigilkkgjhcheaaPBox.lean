import Derived.Test.YtigilkkgjhcheaaPWp
import Derived.Test.YtigilkkgjhcheaaPLocks
import Derived.Test.YtigilkkgjhcheaaRows
import Derived.Conc.MuLone
import Derived.Conc.LoneSelectN
import Derived.WalkKit
import Derived.WalkSpells
namespace Go.Proofs.Ytigilkkgjhcheaa
open Go.RowKit Go.Conc Go.MuLone Go.NWalk

theorem pcell_other {w : World} {p c : Nat} {i : Nat} {v : Value} {cap : Nat} {buf : Array Value} {cl : Bool} {s r : Nat} {tm : Bool}
    (h : w.cell? ⟨p, i, none⟩ = some v) (hc : w.heap[c]? = some (.chan cap buf cl s r tm)) : p ≠ c := by
  rintro rfl
  simp [World.cell?, hc] at h

theorem pcell_setChan {w : World} {p c i cap : Nat} {buf : Array Value} {cl : Bool} {s r : Nat} {tm : Bool} (h : p ≠ c) :
    (w.setChan c cap buf cl s r tm).cell? ⟨p, i, none⟩ = w.cell? ⟨p, i, none⟩ := by
  simp [World.cell?, World.setChan, Array.getElem?_setIfInBounds_ne (Ne.symm h)]

theorem pfrozen_setChan {w : World} {p c i cap : Nat} {buf : Array Value} {cl : Bool} {s r : Nat} {tm : Bool} (h : p ≠ c) :
    (w.setChan c cap buf cl s r tm).frozen? ⟨p, i, none⟩ = w.frozen? ⟨p, i, none⟩ := by
  simp [World.frozen?, World.setChan, Array.getElem?_setIfInBounds_ne (Ne.symm h)]

/-- A box in the heap: its lock free, its channel with room for 'cap', open. -/
structure BoxAt (w : World) (p c cap : Nat) (buf : Array Value) (s r : Nat) : Prop where
  lock : w.cell? ⟨p, 0, none⟩ = some (.int .i32 0)
  ch : w.cell? ⟨p, 2, none⟩ = some (.chan (some c))
  open' : w.cell? ⟨p, 3, none⟩ = some (.bool false)
  thaw : w.frozen? ⟨p, 0, none⟩ = false
  chan : w.heap[c]? = some (.chan cap buf false s r false)

theorem BoxAt.ne {w p c cap buf s r} (h : BoxAt w p c cap buf s r) : p ≠ c := pcell_other h.lock h.chan

theorem BoxAt.relock {w p c cap buf s r} (h : BoxAt w p c cap buf s r) (v : Value) :
    (w.setCell ⟨p, 0, none⟩ v).cell? ⟨p, 0, none⟩ = some v ∧ (w.setCell ⟨p, 0, none⟩ v).cell? ⟨p, 2, none⟩ = some (.chan (some c)) ∧ (w.setCell ⟨p, 0, none⟩ v).cell? ⟨p, 3, none⟩ = some (.bool false) ∧
      (w.setCell ⟨p, 0, none⟩ v).frozen? ⟨p, 0, none⟩ = false ∧ (w.setCell ⟨p, 0, none⟩ v).heap[c]? = some (.chan cap buf false s r false) := by
  refine ⟨World.cell?_setCell_same _ _ _ h.lock, (World.cell?_setCell_other _ _ _ _ (by simp)).trans h.ch, (World.cell?_setCell_other _ _ _ _ (by simp)).trans h.open', by simp [h.thaw], ?_⟩
  rw [Below.heap_setCell _ _ _ _ (Ne.symm h.ne)]
  exact h.chan

set_option maxHeartbeats 1000000 in
theorem take_empty (p c cap s r : Nat) (w : World) (h : BoxAt w p c cap #[] s r) :
    Calls Try.prog 42 #[.pointer (some ⟨p, 0, none⟩)] w fun e w' => e = .returned (.tuple #[.int .i64 0, .int .i64 63]) ∧ w' = (w.setCell ⟨p, 0, none⟩ (.int .i32 1)).setCell ⟨p, 0, none⟩ (.int .i32 0) := by
  obtain ⟨k0, k2, k3, kz, kc⟩ := h.relock (.int .i32 1)
  refine calls_of_runs_defers Try.func42 rfl ?_
  simp only [Try.ntmps42, List.size_toArray, List.length_cons, List.length_nil, Nat.reduceAdd, Nat.reduceSub, Array.replicate_succ,
     Array.replicate_zero, List.push_toArray, List.append_toArray, List.nil_append, List.cons_append]
  refine .seq_k fun K hK => .of_wp ?_
  go_wp2
  refine .seq_k fun K hK => .of_wp ?_
  go_wp2_with (go_at_call 85; refine (lock_free Try.muLib ⟨p, 0, none⟩ _ h.lock h.thaw).mono ?_; rintro e w' ⟨rfl, rfl⟩)
  refine .seq_k fun K hK => .of_wp ?_
  go_wp2
  refine .seq_k fun K hK => .seq_k fun K2 hK2 => .of_wp ?_
  go_wp2
  refine .seq_k fun K2 hK2 => ?_
  refine .select_none (z := .int .i64 0) rfl (by simp [go_sem, execOp, rcase, Act.eval]) kc ?_
  go_wp2
  refine .of_wp ?_
  go_wp2
  refine .of_wp ?_
  go_wp2
  refine leaves_cons (f := 86) (args := #[.pointer (some ⟨p, 0, none⟩)]) (by simp) (by simp [go_sem]) ?_
  refine (unlock_deferred Try.muLib ⟨p, 0, none⟩ .returning _ k0 kz).mono ?_
  rintro e u' w'' ⟨rfl, rfl, rfl⟩
  exact ⟨_, results_tmp2 rfl _ _ _, rfl, rfl⟩

set_option maxHeartbeats 1000000 in
theorem take_some (p c cap s r : Nat) (x : Int) (w : World) (h : BoxAt w p c cap #[.int .i64 x] s r) :
    Calls Try.prog 42 #[.pointer (some ⟨p, 0, none⟩)] w fun e w' => e = .returned (.tuple #[.int .i64 x, .int .i64 0]) ∧
      w' = ((w.setCell ⟨p, 0, none⟩ (.int .i32 1)).setChan c cap #[] false s (r + 1) false).setCell ⟨p, 0, none⟩ (.int .i32 0) := by
  obtain ⟨k0, k2, k3, kz, kc⟩ := h.relock (.int .i32 1)
  refine calls_of_runs_defers Try.func42 rfl ?_
  simp only [Try.ntmps42, List.size_toArray, List.length_cons, List.length_nil, Nat.reduceAdd, Nat.reduceSub, Array.replicate_succ,
     Array.replicate_zero, List.push_toArray, List.append_toArray, List.nil_append, List.cons_append]
  refine .seq_k fun K hK => .of_wp ?_
  go_wp2
  refine .seq_k fun K hK => .of_wp ?_
  go_wp2_with (go_at_call 85; refine (lock_free Try.muLib ⟨p, 0, none⟩ _ h.lock h.thaw).mono ?_; rintro e w' ⟨rfl, rfl⟩)
  refine .seq_k fun K hK => .of_wp ?_
  go_wp2
  refine .seq_k fun K hK => .seq_k fun K2 hK2 => .of_wp ?_
  go_wp2
  refine .seq_k fun K2 hK2 => ?_
  refine .select_recv (z := .int .i64 0) rfl (by simp [go_sem, execOp, rcase, Act.eval]) kc (by simp) ?_
  go_wp2
  refine .of_wp ?_
  go_wp2
  refine leaves_cons (f := 86) (args := #[.pointer (some ⟨p, 0, none⟩)]) (by simp) (by simp [go_sem]) ?_
  refine (unlock_deferred Try.muLib ⟨p, 0, none⟩ .returning _ ((pcell_setChan h.ne).trans k0) ((pfrozen_setChan h.ne).trans kz)).mono ?_
  rintro e u' w'' ⟨rfl, rfl, rfl⟩
  exact ⟨_, results_tmp2 rfl _ _ _, rfl, rfl⟩

set_option maxHeartbeats 1000000 in
theorem send_room (p c cap s r : Nat) (x : Int) (w : World) (h : BoxAt w p c cap #[] s r) (hr : 0 < cap) :
    Calls Try.prog 43 #[.pointer (some ⟨p, 0, none⟩), .int .i64 x] w fun e w' => e = .returned (.int .i64 0) ∧
      w' = ((w.setCell ⟨p, 0, none⟩ (.int .i32 1)).setChan c cap #[.int .i64 x] false (s + 1) r false).setCell ⟨p, 0, none⟩ (.int .i32 0) := by
  obtain ⟨k0, k2, k3, kz, kc⟩ := h.relock (.int .i32 1)
  refine calls_of_runs_defers Try.func43 rfl ?_
  simp only [Try.ntmps43, List.size_toArray, List.length_cons, List.length_nil, Nat.reduceAdd, Nat.reduceSub, Array.replicate_succ,
     Array.replicate_zero, List.push_toArray, List.append_toArray, List.nil_append, List.cons_append]
  refine .seq_k fun K hK => .of_wp ?_
  go_wp2
  refine .seq_k fun K hK => .of_wp ?_
  go_wp2_with (go_at_call 85; refine (lock_free Try.muLib ⟨p, 0, none⟩ _ h.lock h.thaw).mono ?_; rintro e w' ⟨rfl, rfl⟩)
  refine .seq_k fun K hK => .of_wp ?_
  go_wp2
  refine .seq_k fun K hK => .of_wp ?_
  go_wp2
  refine .seq_k fun K hK => .of_wp ?_
  go_wp2
  refine .seq_k fun K hK => ?_
  refine .select_send (v := .int .i64 x) (z := .int .i64 0) rfl (by simp [go_sem, execOp, scase, Act.eval]) kc (by simpa using hr) ?_
  go_wp2
  refine .of_wp ?_
  go_wp2
  refine leaves_cons (f := 86) (args := #[.pointer (some ⟨p, 0, none⟩)]) (by simp) (by simp [go_sem]) ?_
  refine (unlock_deferred Try.muLib ⟨p, 0, none⟩ .returning _ ((pcell_setChan h.ne).trans k0) ((pfrozen_setChan h.ne).trans kz)).mono ?_
  rintro e u' w'' ⟨rfl, rfl, rfl⟩
  exact ⟨_, results_tmp rfl _ _ _, rfl, rfl⟩

set_option maxHeartbeats 1000000 in
theorem step_nil (w : World) : Calls Try.prog 41 #[.pointer none] w fun e w' => e = .returned (.tuple #[]) ∧ w' = w := by
  go_enter Try.func41, Try.ntmps41
  go_wp2
  refine bodyPost_ret (results_none rfl _ _ _) rfl ?_
  exact ⟨rfl, rfl⟩

theorem elem_int : ∃ i, Try.prog.info? 3 = some i ∧ i.bytes = 8 := by
  have h : (Try.prog.info? 3).map (·.bytes) = some 8 := by kernel_rfl
  obtain ⟨i, hi, hb⟩ := Option.map_eq_some_iff.1 h
  exact ⟨i, hi, hb⟩

theorem mk2 (w : World) : (Instr.makeChan 91 (.int .i64 2)).run Try.prog w = .ok (.chan (some w.heap.size)) (w.alloc (.chan 2 #[] false 0 0 false)) := by
  obtain ⟨i, hi, hb⟩ := elem_int
  simpa using run_makeChan (P := Try.prog) (w := w) Try.underlying91 hi .i64 2 (by omega) (by rw [hb]; omega)

set_option maxHeartbeats 1000000 in
theorem new_two (w : World) : Calls Try.prog 11 #[.int .i64 2] w fun e w' => e = .returned (.tuple #[.pointer (some ⟨w.heap.size + 1, 0, none⟩), .int .i64 0]) ∧
    w' = (w.alloc (.chan 2 #[] false 0 0 false)).alloc (.cells #[.int .i32 0, .int .u32 0, .chan (some w.heap.size), .bool false] 97 (0, 0)) := by
  have hm := mk2
  go_enter Try.func11, Try.ntmps11
  go_wp2
  go_ret2
  exact ⟨rfl, rfl⟩

set_option maxHeartbeats 1000000 in
theorem Take_of (p : Nat) (a b : Int) (w w₁ : World)
    (h : Calls Try.prog 42 #[.pointer (some ⟨p, 0, none⟩)] w fun e w' => e = .returned (.tuple #[.int .i64 a, .int .i64 b]) ∧ w' = w₁) :
    Calls Try.prog 12 #[.pointer (some ⟨p, 0, none⟩), .pointer none] w fun e w' => e = .returned (.tuple #[.int .i64 a, .int .i64 b]) ∧ w' = w₁ := by
  go_enter Try.func12, Try.ntmps12
  go_wp2_with (first
    | (go_at_call 41; refine (step_nil _).mono ?_; rintro e w' ⟨rfl, rfl⟩)
    | (go_at_call 42; refine h.mono ?_; rintro e w' ⟨rfl, rfl⟩))
  go_ret2
  exact ⟨rfl, rfl⟩

set_option maxHeartbeats 1000000 in
theorem Send_of (p : Nat) (x a : Int) (w w₁ : World)
    (h : Calls Try.prog 43 #[.pointer (some ⟨p, 0, none⟩), .int .i64 x] w fun e w' => e = .returned (.int .i64 a) ∧ w' = w₁) :
    Calls Try.prog 13 #[.pointer (some ⟨p, 0, none⟩), .pointer none, .int .i64 x] w fun e w' => e = .returned (.int .i64 a) ∧ w' = w₁ := by
  go_enter Try.func13, Try.ntmps13
  go_wp2_with (first
    | (go_at_call 41; refine (step_nil _).mono ?_; rintro e w' ⟨rfl, rfl⟩)
    | (go_at_call 43; refine h.mono ?_; rintro e w' ⟨rfl, rfl⟩))
  go_ret
  exact ⟨rfl, rfl⟩

set_option maxHeartbeats 1000000 in
theorem Len_any (p c cap s r : Nat) (buf : Array Value) (w : World) (h : BoxAt w p c cap buf s r) :
    Calls Try.prog 14 #[.pointer (some ⟨p, 0, none⟩), .pointer none] w fun e w' => e = .returned (.int .i64 buf.size) ∧ w' = w := by
  have hl := run_len_chan (P := Try.prog) (w := w) 91 3 Try.underlying91 h.chan
  have hch := h.ch
  go_enter Try.func14, Try.ntmps14
  go_wp2_with (go_at_call 41; refine (step_nil _).mono ?_; rintro e w' ⟨rfl, rfl⟩)
  go_ret
  exact ⟨rfl, rfl⟩

theorem BoxAt.again {w p c cap buf s r} (h : BoxAt w p c cap buf s r) : BoxAt ((w.setCell ⟨p, 0, none⟩ (.int .i32 1)).setCell ⟨p, 0, none⟩ (.int .i32 0)) p c cap buf s r := by
  obtain ⟨k0, k2, k3, kz, kc⟩ := h.relock (.int .i32 1)
  refine ⟨World.cell?_setCell_same _ _ _ k0, (World.cell?_setCell_other _ _ _ _ (by simp)).trans k2, (World.cell?_setCell_other _ _ _ _ (by simp)).trans k3, by simp [h.thaw], ?_⟩
  rw [Below.heap_setCell _ _ _ _ (Ne.symm h.ne)]
  exact kc

theorem BoxAt.turned {w p c cap buf s r} (h : BoxAt w p c cap buf s r) (buf' : Array Value) (s' r' : Nat) :
    BoxAt (((w.setCell ⟨p, 0, none⟩ (.int .i32 1)).setChan c cap buf' false s' r' false).setCell ⟨p, 0, none⟩ (.int .i32 0)) p c cap buf' s' r' := by
  obtain ⟨k0, k2, k3, kz, kc⟩ := h.relock (.int .i32 1)
  have hc : c < w.heap.size := by
    have := h.chan
    rw [Array.getElem?_eq_some_iff] at this
    exact this.1
  refine ⟨World.cell?_setCell_same _ _ _ ((pcell_setChan h.ne).trans k0), (World.cell?_setCell_other _ _ _ _ (by simp)).trans ((pcell_setChan h.ne).trans k2), (World.cell?_setCell_other _ _ _ _ (by simp)).trans ((pcell_setChan h.ne).trans k3), ?_, ?_⟩
  · have : (((w.setCell ⟨p, 0, none⟩ (.int .i32 1)).setChan c cap buf' false s' r' false).setCell ⟨p, 0, none⟩ (.int .i32 0)).frozen? ⟨p, 0, none⟩ = ((w.setCell ⟨p, 0, none⟩ (.int .i32 1)).setChan c cap buf' false s' r' false).frozen? ⟨p, 0, none⟩ := by simp
    rw [this]
    exact (pfrozen_setChan h.ne).trans kz
  · rw [Below.heap_setCell _ _ _ _ (Ne.symm h.ne)]
    exact heap_setChan _ _ _ _ _ _ _ _ (by simpa using hc)

theorem box_new (w : World) : BoxAt ((w.alloc (.chan 2 #[] false 0 0 false)).alloc (.cells #[.int .i32 0, .int .u32 0, .chan (some w.heap.size), .bool false] 97 (0, 0))) (w.heap.size + 1) w.heap.size 2 #[] 0 0 := by
  have hz : (w.alloc (.chan 2 #[] false 0 0 false)).heap.size = w.heap.size + 1 := World.size_alloc _ _
  refine ⟨?_, ?_, ?_, ?_, ?_⟩
  · rw [World.cell?_alloc_at _ _ _ _ hz.symm]; rfl
  · rw [World.cell?_alloc_at _ _ _ _ hz.symm]; rfl
  · rw [World.cell?_alloc_at _ _ _ _ hz.symm]; rfl
  · rw [World.frozen?_alloc_at _ _ _ _ hz.symm]
  · rw [Below.heap_alloc _ _ _ (by rw [hz]; omega)]
    exact heap_alloc_new w _

theorem below_relock {B : Nat} {a w : World} {p : Nat} (h : Below B a w) (hp : B ≤ p) : Below B a ((w.setCell ⟨p, 0, none⟩ (.int .i32 1)).setCell ⟨p, 0, none⟩ (.int .i32 0)) :=
  (h.setCell (p := ⟨p, 0, none⟩) hp _).setCell (p := ⟨p, 0, none⟩) hp _

theorem below_turned {B : Nat} {a w : World} {p c cap s r : Nat} {buf : Array Value} (h : Below B a w) (hp : B ≤ p) (hc : B ≤ c) :
    Below B a (((w.setCell ⟨p, 0, none⟩ (.int .i32 1)).setChan c cap buf false s r false).setCell ⟨p, 0, none⟩ (.int .i32 0)) :=
  (below_setChan (h.setCell (p := ⟨p, 0, none⟩) hp _) hc _ _ _ _ _ _).setCell (p := ⟨p, 0, none⟩) hp _

set_option maxRecDepth 100000 in
set_option maxHeartbeats 2000000 in
theorem postNames_any (w : World) : Calls Try.prog 3 #[] w fun e w' => e = .returned (.bool true) ∧ Below w.heap.size w w' := by
  go_enter Try.func3, Try.ntmps3
  go_wp2_with fail
  refine (new_two w).mono ?_
  rintro e w1 ⟨rfl, hw1⟩
  have hb1 : BoxAt w1 (w.heap.size + 1) w.heap.size 2 #[] 0 0 := hw1 ▸ box_new w
  have hB1 : Below w.heap.size w w1 := hw1 ▸ ((Below.refl _ _).alloc (Nat.le_refl _) _).alloc (by rw [World.size_alloc]; omega) _
  clear hw1
  go_wp2_with fail
  refine (Take_of _ _ _ _ _ (take_empty _ _ _ _ _ _ hb1)).mono ?_
  rintro e w2 ⟨rfl, hw2⟩
  have hb2 : BoxAt w2 (w.heap.size + 1) w.heap.size 2 #[] 0 0 := hw2 ▸ hb1.again
  have hB2 : Below w.heap.size w w2 := hw2 ▸ below_relock hB1 (by omega)
  clear hw2
  go_wp2_with fail
  refine (Send_of _ _ _ _ _ (send_room _ _ _ _ _ _ _ hb2 (by omega))).mono ?_
  rintro e w3 ⟨rfl, hw3⟩
  have hb3 : BoxAt w3 (w.heap.size + 1) w.heap.size 2 #[.int .i64 7] 1 0 := hw3 ▸ hb2.turned _ _ _
  have hB3 : Below w.heap.size w w3 := hw3 ▸ below_turned hB2 (by omega) (by omega)
  clear hw3
  go_wp2_with fail
  refine (Len_any _ _ _ _ _ _ _ hb3).mono ?_
  rintro e w' ⟨rfl, rfl⟩
  go_wp2_with fail
  refine (Take_of _ _ _ _ _ (take_some _ _ _ _ _ _ _ hb3)).mono ?_
  rintro e w4 ⟨rfl, hw4⟩
  have hB4 : Below w.heap.size w w4 := hw4 ▸ below_turned hB3 (by omega) (by omega)
  clear hw4
  go_wp2
  go_ret
  exact ⟨rfl, hB4⟩
end Go.Proofs.Ytigilkkgjhcheaa
