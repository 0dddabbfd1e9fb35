/-
  The contracts of slices.Clone, New, Left and Copy of orders (the program's), and of the reference's.
-/
import Derived.Test.YtkeipanehjjmdaaTRPick
import Derived.Deep.RegionWith
namespace Go.Proofs.Ytkeipanehjjmdaa
open Go.RowKit BA TU
theorem ints_one (xs : List Int) : ∀ u ∈ xs.map (Value.int .i64), u.oneCell' = true := by
  intro u hu
  rw [List.mem_map] at hu
  obtain ⟨x, _, rfl⟩ := hu
  rfl
theorem ints_shape {w : World} {v : Value} {xs : List Int} (h : Reads w v (xs.map (Value.int .i64))) : ∃ ao c, v = .slice ao xs.length c := by
  obtain ⟨ao, c, h⟩ := h.shape
  exact ⟨ao, c, by rw [h, List.length_map]⟩
/-- A fresh copy of a row. -/
def Fresh (w : World) (xs : List Int) (e : Ending) (w' : World) : Prop :=
  ∃ ao c, e = .returned (.slice ao xs.length c) ∧ Reads w' (.slice ao xs.length c) (xs.map (Value.int .i64)) ∧ Below w.heap.size w w' ∧ ∀ k, (Value.slice ao xs.length c).ownBlock = some k → w.heap.size ≤ k ∧ k < w'.heap.size
set_option maxHeartbeats 400000 in
theorem clone_any (sv : Value) (xs : List Int) (w : World) (hr : Reads w sv (xs.map (Value.int .i64))) (hlen : xs.length ≤ 1000000000) :
    Calls Try.prog 40 #[sv] w (Fresh w xs) := by
  obtain ⟨i0, hi, hz0, hz1, hz2⟩ := info_parts info_int
  have hrr := hr
  have hml : (xs.map (Value.int .i64)).length = xs.length := by simp
  have key : ∀ (ao : Option Addr) (n c : Nat), sv = .slice ao n c → ∀ wx, (binOp .eql 22 (.slice ao n c) (.slice none 0 0)).run Try.prog wx = .ok (.bool ao.isNone) wx := fun ao n c _ wx => Lib.run_eql_slice_nil wx 22 3 ao n c 0 0 Try.underlying22
  have hsh : ∃ ao n c, sv = .slice ao n c ∧ (ao = none → xs = []) := by
    rcases hr with ⟨h, ao, c, hv, _, _⟩ | ⟨_, b, o, c, hv, _⟩
    · exact ⟨ao, 0, c, hv, fun _ => by simpa using h⟩
    · exact ⟨_, _, c, hv, fun h => by cases h⟩
  obtain ⟨ao, n, c, rfl, hnil⟩ := hsh
  have hk := key ao n c rfl
  clear key
  cases ao with
  | none =>
    obtain rfl := hnil rfl
    go_enter Try.func40, Try.ntmps40
    go_wp2
    go_ret
    exact ⟨none, 0, rfl, .inl ⟨rfl, none, 0, rfl, by unfold maxLen; omega, fun _ => rfl⟩, Below.refl _ _, fun k hk => by cases hk⟩
  | some a =>
    have HH := Lib.hid hrr
    clear hrr hr hml hnil
    go_enter Try.func40, Try.ntmps40
    have hre := fun (o : Obj) => HH.out.same (w' := w.alloc o) fun k _ hlt => Below.heap_alloc _ _ _ hlt
    have HRE := Lib.hid hre
    clear hre
    go_wp2_with (first
      | (at_builtin; refine wpList_append_reads _ rfl _ _ 22 rfl w.heap.size 3 i0 (.int .i64 0) 8 Try.underlying22 hi hz0 hz1 hz2 rfl _ 0 [] rfl ?c0 _ (xs.map (Value.int .i64)) rfl (HRE.out _) (ints_one xs) ?c3 ?c4 ?c5 ?_)
      | go_in)
    case c0 => have := World.ownsRow_made (base := w.heap.size) (e := 3) (size := 1) w #[] 0 (Nat.le_refl _) (by unfold maxLen; omega) (by simp); exact ⟨_, this⟩
    case c3 => simp; unfold maxLen; omega
    case c4 => simp; omega
    case c5 => simp
    intro v' w1 h1 h2 h3
    have hb := h1.blk
    have hbel : Below w.heap.size w w1 := ((Below.refl _ _).alloc (Nat.le_refl _) _).grown h2 (by simp) (fun k hk => by cases hk; exact Nat.le_refl _)
    have hre := h1.reads
    obtain ⟨ao', c', rfl⟩ := ints_shape hre
    clear h1 h2 h3
    go_wp2
    go_ret
    exact ⟨ao', c', rfl, hre, hbel, hb⟩
/-- A new order. -/
def NewPost (T : TypeId) (w : World) (left : List Int) (last : Int) (e : Ending) (w' : World) : Prop :=
  ∃ b lv, e = .returned (.pointer (some ⟨b, 0, none⟩)) ∧ OrdP w' T b lv left last ∧ Below w.heap.size w w' ∧ w.heap.size ≤ b ∧ ∀ k, lv.ownBlock = some k → w.heap.size ≤ k ∧ k < w'.heap.size
theorem new_mk {w w1 : World} {T : TypeId} {v : Value} {left : List Int} {last : Int} (hr : Reads w1 v (left.map (Value.int .i64))) (hb : Below w.heap.size w w1) (hf : ∀ k, v.ownBlock = some k → w.heap.size ≤ k ∧ k < w1.heap.size) :
    OrdP (w1.alloc (.cells #[v, .int .i64 last] T)) T w1.heap.size v left last ∧ Below w.heap.size w (w1.alloc (.cells #[v, .int .i64 last] T)) :=
  ⟨⟨heap_alloc_new _ _, hr.same fun k _ hlt => Below.heap_alloc _ _ _ hlt, fun h => by have := (hf _ h).2; omega⟩, hb.alloc hb.size _⟩
set_option maxHeartbeats 400000 in
theorem new_any (sv : Value) (xs : List Int) (w : World) (hr : Reads w sv (xs.map (Value.int .i64))) (hlen : xs.length ≤ 1000000000) :
    Calls Try.prog 14 #[sv] w (NewPost 53 w xs (-1)) := by
  go_enter Try.func14, Try.ntmps14
  go_wp2_with (go_at_call 40; refine (clone_any _ xs _ hr hlen).mono ?_; rintro e w1 ⟨ao, c, rfl, hr1, hb1, hf1⟩)
  go_ret
  have := new_mk (T := 53) (last := -1) hr1 hb1 hf1
  exact ⟨w1.heap.size, _, rfl, this.1, this.2, hb1.size, fun k hk => ⟨(hf1 k hk).1, by have := (hf1 k hk).2; simp; omega⟩⟩
set_option maxHeartbeats 400000 in
theorem rnew_any (sv : Value) (xs : List Int) (w : World) (hr : Reads w sv (xs.map (Value.int .i64))) (hlen : xs.length ≤ 1000000000) :
    Calls Try.prog 15 #[sv] w (NewPost 55 w xs (-1)) := by
  obtain ⟨i0, hi, hz0, hz1, hz2⟩ := info_parts info_int
  have HR := Lib.hid hr
  clear hr
  go_enter Try.func15, Try.ntmps15
  go_wp2_with (first
      | (at_builtin; refine wpList_append_reads _ rfl _ _ 22 rfl w.heap.size 3 i0 (.int .i64 0) 8 Try.underlying22 hi hz0 hz1 hz2 rfl _ 0 [] rfl (OwnS.nil _ _ _) _ (xs.map (Value.int .i64)) rfl HR.out (ints_one xs) ?c3 ?c4 ?c5 ?_)
      | go_in)
  case c3 => simp; unfold maxLen; omega
  case c4 => simp; omega
  case c5 => exact Nat.le_refl _
  intro v w1 h1 h2 h3
  have hf1 := h1.blk
  have hb1 : Below w.heap.size w w1 := (Below.refl _ _).grown h2 (Nat.le_refl _) (fun k hk => by cases hk)
  have hr1 := h1.reads
  obtain ⟨ao, c, rfl⟩ := ints_shape hr1
  clear h1 h2 h3
  go_wp2
  go_ret
  have := new_mk (T := 55) (last := -1) hr1 hb1 hf1
  exact ⟨w1.heap.size, _, rfl, this.1, this.2, hb1.size, fun k hk => ⟨(hf1 k hk).1, by have := (hf1 k hk).2; simp; omega⟩⟩
theorem OrdP.shape {w : World} {T b : Nat} {lv : Value} {left : List Int} {last : Int} (h : OrdP w T b lv left last) : ∃ ao c, lv = .slice ao left.length c := by
  rcases h.2.1 with ⟨hx, ao, c, hv, _⟩ | ⟨_, lb, lo, lc, hv, _⟩
  · obtain rfl : left = [] := by simpa using hx
    exact ⟨ao, c, hv⟩
  · exact ⟨some ⟨lb, lo, none⟩, lc, by rw [hv]; simp⟩
theorem left_any (ob : Nat) (lv : Value) (left : List Int) (last : Int) (w : World) (ho : OrdP w 53 ob lv left last) :
    Calls Try.prog 18 #[.pointer (some ⟨ob, 0, none⟩)] w fun e w' => e = .returned (.int .i64 left.length) ∧ w = w' := by
  obtain ⟨ao, c, rfl⟩ := ho.shape
  have hc1 : w.cell? ⟨ob, 0, none⟩ = some (.slice ao left.length c) := by simp [World.cell?, ho.1]
  go_enter Try.func18, Try.ntmps18
  go_wp2
  go_ret
  exact ⟨rfl, rfl⟩
theorem rleft_any (ob : Nat) (lv : Value) (left : List Int) (last : Int) (w : World) (ho : OrdP w 55 ob lv left last) :
    Calls Try.prog 19 #[.pointer (some ⟨ob, 0, none⟩)] w fun e w' => e = .returned (.int .i64 left.length) ∧ w = w' := by
  obtain ⟨ao, c, rfl⟩ := ho.shape
  have hc1 : w.cell? ⟨ob, 0, none⟩ = some (.slice ao left.length c) := by simp [World.cell?, ho.1]
  go_enter Try.func19, Try.ntmps19
  go_wp2
  go_ret
  exact ⟨rfl, rfl⟩
set_option maxHeartbeats 1000000 in
theorem copy_any (ob : Nat) (lv : Value) (left : List Int) (last : Int) (w : World) (ho : OrdP w 53 ob lv left last) (hlen : left.length ≤ 1000000000) :
    Calls Try.prog 20 #[.pointer (some ⟨ob, 0, none⟩)] w (NewPost 53 w left last) := by
  have hc1 : w.cell? ⟨ob, 0, none⟩ = some lv := by simp [World.cell?, ho.1]
  have hc2 : w.cell? ⟨ob, 1, none⟩ = some (.int .i64 last) := by simp [World.cell?, ho.1]
  have hob : ob < w.heap.size := lt_of_block ho.1
  have hr := Lib.hid ho.2.1
  clear ho
  go_enter Try.func20, Try.ntmps20
  go_wp2
  go_region_with (go_at_call 40; (refine (clone_any _ left w.drew hr.out.drew hlen).mono ?_; rintro e w1 ⟨ao, c, rfl, hr1, hb1, hf1⟩; have hcx : w1.cell? ⟨ob, 1, none⟩ = some (.int .i64 last) := (Below.cell (w := w.drew) hb1 (p := ⟨ob, 1, none⟩) (by exact hob)).trans hc2))
  all_goals go_wp2
  all_goals go_ret
  all_goals
    have hb2 : Below w.heap.size w w1 := ⟨hb1.os, hb1.tape, hb1.output, hb1.size, hb1.block⟩
    have hend := new_mk (T := 53) (last := last) hr1 hb2 hf1
    exact ⟨w1.heap.size, _, rfl, hend.1, hend.2, hb2.size, fun k hk => ⟨(hf1 k hk).1, by have := (hf1 k hk).2; simp; omega⟩⟩
end Go.Proofs.Ytkeipanehjjmdaa
