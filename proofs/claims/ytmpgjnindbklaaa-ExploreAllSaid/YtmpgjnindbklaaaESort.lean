/-
  The library's slices.Reverse and slices.SortFunc, laid at this translation (printed by the kit's lay-plain.mjs): the table of numbers and, a field a fact, that each body is the one that the shelf's contract was proved of.
-/
import Derived.Shelf.Slices.Reverse
import Derived.Shelf.SlSortCmp.NoneTotal
import Derived.Test.YtmpgjnindbklaaaRows
import Derived.Test.YtmpgjnindbklaaaEGrid
import Derived.Sort.Grow
import Derived.Test.YtmpgjnindbklaaaESame
import Derived.Sort.LotA
import Derived.Shelf.SlSortCmp.Insertion
namespace Go.Proofs.Ytmpgjnindbklaaa
open Go.Shelf
def layRev_ren : Go.Shelf.Ren := ⟨fun | 112 => 31 | n => n, fun | 28 => 22 | 3 => 3 | 4 => 4 | 0 => 0 | n => n, fun | n => n⟩
theorem layRev : Go.Proofs.Lays.n112 Try.prog layRev_ren := {
  mixed := by kernel_rfl
  f112 := Try.func31.trans (congrArg some (by kernel_rfl))
  t0 := Try.underlying0
  a0 := Try.isAgg0
  z0 := Try.sizeOf0
  v0 := Try.zeroValue0
  t3 := Try.underlying3
  a3 := Try.isAgg3
  z3 := Try.sizeOf3
  v3 := Try.zeroValue3
  t4 := Try.underlying4
  a4 := Try.isAgg4
  z4 := Try.sizeOf4
  v4 := Try.zeroValue4
  t28 := Try.underlying22
  a28 := Try.isAgg22
  z28 := Try.sizeOf22
  v28 := Try.zeroValue22 }
def laySort_ren : Go.Shelf.Ren := ⟨fun | 6 => 38 | 15 => 53 | 14 => 52 | 28 => 67 | 29 => 68 | 20 => 59 | 21 => 60 | 22 => 61 | 23 => 62 | 24 => 63 | 25 => 64 | 26 => 65 | 27 => 66 | 46 => 70 | 47 => 71 | 48 => 72 | 49 => 73 | 50 => 74 | 57 => 75 | n => n, fun | 22 => 38 | 24 => 22 | 25 => 84 | 3 => 3 | 39 => 98 | 0 => 0 | 53 => 112 | 55 => 114 | 4 => 4 | 46 => 106 | 45 => 105 | 50 => 92 | 5 => 5 | 9 => 9 | 66 => 115 | 70 => 119 | 76 => 121 | 77 => 122 | n => n, fun | n => n⟩
theorem laySort : Go.Proofs.SlLaysF.n6 Try.prog laySort_ren := {
  mixed := by kernel_rfl
  f6 := ⟨Try.f38.name, by decide, Try.func38.trans (congrArg some (by kernel_rfl))⟩
  f14 := ⟨Try.f52.name, by decide, Try.func52.trans (congrArg some (by kernel_rfl))⟩
  f15 := Try.func53.trans (congrArg some (by kernel_rfl))
  f20 := ⟨Try.f59.name, by decide, Try.func59.trans (congrArg some (by kernel_rfl))⟩
  f21 := ⟨Try.f60.name, by decide, Try.func60.trans (congrArg some (by kernel_rfl))⟩
  f22 := ⟨Try.f61.name, by decide, Try.func61.trans (congrArg some (by kernel_rfl))⟩
  f23 := ⟨Try.f62.name, by decide, Try.func62.trans (congrArg some (by kernel_rfl))⟩
  f24 := ⟨Try.f63.name, by decide, Try.func63.trans (congrArg some (by kernel_rfl))⟩
  f25 := ⟨Try.f64.name, by decide, Try.func64.trans (congrArg some (by kernel_rfl))⟩
  f26 := ⟨Try.f65.name, by decide, Try.func65.trans (congrArg some (by kernel_rfl))⟩
  f27 := ⟨Try.f66.name, by decide, Try.func66.trans (congrArg some (by kernel_rfl))⟩
  f28 := Try.func67.trans (congrArg some (by kernel_rfl))
  f29 := Try.func68.trans (congrArg some (by kernel_rfl))
  f46 := ⟨Try.f70.name, by decide, Try.func70.trans (congrArg some (by kernel_rfl))⟩
  f47 := Try.func71.trans (congrArg some (by kernel_rfl))
  f48 := Try.func72.trans (congrArg some (by kernel_rfl))
  f49 := ⟨Try.f73.name, by decide, Try.func73.trans (congrArg some (by kernel_rfl))⟩
  f50 := ⟨Try.f74.name, by decide, Try.func74.trans (congrArg some (by kernel_rfl))⟩
  f57 := ⟨Try.f75.name, by decide, Try.func75.trans (congrArg some (by kernel_rfl))⟩
  t0 := Try.underlying0
  a0 := Try.isAgg0
  z0 := Try.sizeOf0
  v0 := Try.zeroValue0
  t3 := Try.underlying3
  a3 := Try.isAgg3
  z3 := Try.sizeOf3
  v3 := Try.zeroValue3
  t4 := Try.underlying4
  a4 := Try.isAgg4
  z4 := Try.sizeOf4
  v4 := Try.zeroValue4
  t5 := Try.underlying5
  a5 := Try.isAgg5
  z5 := Try.sizeOf5
  v5 := Try.zeroValue5
  t9 := Try.underlying9
  a9 := Try.isAgg9
  z9 := Try.sizeOf9
  v9 := Try.zeroValue9
  t22 := Try.underlying38
  a22 := Try.isAgg38
  z22 := Try.sizeOf38
  v22 := Try.zeroValue38
  a24 := Try.isAgg22
  z24 := Try.sizeOf22
  t25 := Try.underlying84
  a25 := Try.isAgg84
  z25 := Try.sizeOf84
  v25 := Try.zeroValue84
  t39 := Try.underlying98
  a39 := Try.isAgg98
  z39 := Try.sizeOf98
  v39 := Try.zeroValue98
  t45 := Try.underlying105
  a45 := Try.isAgg105
  z45 := Try.sizeOf105
  v45 := Try.zeroValue105
  t46 := Try.underlying106
  a46 := Try.isAgg106
  z46 := Try.sizeOf106
  v46 := Try.zeroValue106
  t50 := Try.underlying92
  a50 := Try.isAgg92
  z50 := Try.sizeOf92
  v50 := Try.zeroValue92
  t53 := Try.underlying112
  a53 := Try.isAgg112
  z53 := Try.sizeOf112
  v53 := Try.zeroValue112
  t55 := Try.underlying114
  a55 := Try.isAgg114
  z55 := Try.sizeOf114
  v55 := Try.zeroValue114
  t66 := Try.underlying115
  a66 := Try.isAgg115
  z66 := Try.sizeOf115
  v66 := Try.zeroValue115
  t70 := Try.underlying119
  a70 := Try.isAgg119
  z70 := Try.sizeOf119
  v70 := Try.zeroValue119
  t76 := Try.underlying121
  a76 := Try.isAgg121
  z76 := Try.sizeOf121
  v76 := Try.zeroValue121
  t77 := Try.underlying122
  a77 := Try.isAgg122
  z77 := Try.sizeOf122
  v77 := Try.zeroValue122 }
end Go.Proofs.Ytmpgjnindbklaaa
namespace Go.Proofs.Ytmpgjnindbklaaa
open Go.RowKit BA Ex Go.Shelf Go.Sort

/-- A row that the library has put in another order (or turned): generic over how an element lies. -/
theorem holds_blk {α : Type} [Inhabited α] {enc : α → Value} {w : World} {g : Nat} {cur : Array Value} {e : TypeId} {ss : List α} (hb : w.heap[g]? = some (.cells cur e (0, 0))) (ht : cur.toList.take ss.length = ss.map enc) : Holds enc w g 0 ss.toArray := by
  intro j hj
  have hj' : j < ss.length := by simpa using hj
  refine ⟨?_, by simp [World.frozen?, hb]⟩
  have h1 : (cur.toList.take ss.length)[j]? = (ss.map enc)[j]? := by rw [ht]
  rw [List.getElem?_take_of_lt hj'] at h1
  simp only [World.cell?, hb, Nat.zero_add]
  simp only [Option.isSome_none, Bool.false_eq_true, if_false]
  rw [← Array.getElem?_toList, h1]
  simp [hj']
theorem heap_putRow {α : Type} [Inhabited α] {enc : α → Value} {w : World} {g n : Nat} {os : Array Obj} {cur : Array Value} {e : TypeId} {fr : Nat × Nat} (d : Array α) (hb : w.heap[g]? = some (.cells cur e fr)) :
    (grow (putRow enc (Sort.ahead w n) g 0 d) os).heap[g]? = some (.cells (putCells enc 0 d cur) e fr) := by
  have hg : g < w.heap.size := (Array.getElem?_eq_some_iff.1 hb).1
  rw [heap_grow_old _ _ (by simpa using hg)]
  simp [putRow, mapBlock, Sort.ahead, Array.getElem?_modify, hb, onCells]
theorem grownBy_putRow {α : Type} [Inhabited α] {enc : α → Value} {w : World} {g n : Nat} {os : Array Obj} (d : Array α) : w.grownBy (grow (putRow enc (Sort.ahead w n) g 0 d) os) (some g) := by
  refine ⟨rfl, rfl, rfl, by simp, fun k hk hne => ?_⟩
  rw [heap_grow_old _ _ (by simpa using hk)]
  have : g ≠ k := fun e => hne (by rw [e])
  simp [putRow, mapBlock, Sort.ahead, Array.getElem?_modify, this]
theorem take_putRow {α : Type} [Inhabited α] {enc : α → Value} (cur : Array Value) (ts : List α) (h : ts.length ≤ cur.size) : (putCells enc 0 ts.toArray cur).toList.take ts.length = ts.map enc := by
  apply List.ext_getElem?
  intro j
  by_cases hj : j < ts.length
  · rw [List.getElem?_take_of_lt hj, Array.getElem?_toList]
    simp [putCells, hj, show j < cur.size by omega]
  · rw [List.getElem?_take_eq_none (by omega), List.getElem?_eq_none (by simp; omega)]
theorem ownS_put {α : Type} [Inhabited α] {enc : α → Value} {w : World} {base n m : Nat} {v : Value} {ss ts : List α} (h : OwnS w base 1 v m (ss.map enc)) (hl : ts.length = ss.length) {g cap : Nat} (hv : v = .slice (some ⟨g, 0, none⟩) ss.length cap) (os : Array Obj) :
    OwnS (grow (putRow enc (Sort.ahead w n) g 0 ts.toArray) os) base 1 v m (ts.map enc) := by
  subst hv
  obtain ⟨e, h0, h1⟩ := h
  rcases h1 with ⟨hh, _⟩ | ⟨g', cap', cur, hv, hg, hb, hn, hcap, hsz, ht⟩
  · cases hh
  cases hv
  exact ⟨e, (by simp only [List.length_map] at h0 ⊢; omega), .inr ⟨g, cap, _, rfl, hg, heap_putRow _ hb, hn, hcap, by simp [putCells, hsz], by
    rw [Nat.mul_one, ← hl]; exact take_putRow cur ts (by omega)⟩⟩

theorem reverse_walk (w : World) (base m : Nat) (v : Value) (xs : List Int) (h : OwnS w base 1 v m (ints xs)) (hm : m ≤ 1000000) :
    Calls Try.prog 31 #[v] w fun e w' => e = .returned (.tuple #[]) ∧ OwnS w' base 1 v m (ints xs.reverse) ∧ w.grownBy w' v.ownBlock := by
  obtain ⟨e, h0, h1⟩ := id h
  have hl : m = xs.length := by simpa [ints] using h0.symm
  subst hl
  rcases h1 with ⟨hh, hx⟩ | ⟨g, cap, cur, rfl, hg, hb, hn, hcap, hsz, ht⟩
  · subst hh
    have hx : xs = [] := List.length_eq_zero_iff.1 hx
    subst hx
    have hcon := Any.slices_Reverse_int_empty layRev none 0 w
    change Calls Try.prog 31 _ _ _ at hcon
    refine hcon.mono ?_
    rintro e w' ⟨rfl, rfl⟩
    exact ⟨rfl, h, World.grownBy.refl _ _⟩
  · have hH : Holds (Value.int .i64) w g 0 xs.toArray := holds_blk hb (by simpa [ints] using ht)
    have hcon := Any.slices_Reverse_int layRev g 0 cap xs w hH (by omega)
    change Calls Try.prog 31 _ _ _ at hcon
    refine hcon.mono ?_
    rintro e w' ⟨rfl, n, rfl⟩
    have h3 := ownS_put (enc := Value.int .i64) (n := n) (ts := xs.reverse) h (by simp) rfl #[]
    have h4 := grownBy_putRow (enc := Value.int .i64) (w := w) (g := g) (n := n) (os := #[]) xs.reverse.toArray
    rw [grow_empty] at h3 h4
    exact ⟨rfl, h3, h4⟩
end Go.Proofs.Ytmpgjnindbklaaa
namespace Go.Proofs.Ytmpgjnindbklaaa
open Go.RowKit BA Ex

/-- What slices.Compare answers. -/
def cmpL : List Int → List Int → Int
  | [], [] => 0
  | [], _ :: _ => -1
  | _ :: _, [] => 1
  | x :: a, y :: b => if x < y then -1 else if y < x then 1 else cmpL a b

theorem cmpL_drop {a b : List Int} {i : Nat} (ha : i < a.length) (hb : i < b.length) : cmpL (a.drop i) (b.drop i) = if a.getD i 0 < b.getD i 0 then -1 else if b.getD i 0 < a.getD i 0 then 1 else cmpL (a.drop (i + 1)) (b.drop (i + 1)) := by
  rw [List.drop_eq_getElem_cons ha, List.drop_eq_getElem_cons hb]
  simp only [cmpL]
  simp [List.getD_eq_getElem?_getD, ha, hb]
theorem cmpL_left {a b : List Int} {i : Nat} (ha : i < a.length) (hb : b.length ≤ i) : cmpL (a.drop i) (b.drop i) = 1 := by
  rw [List.drop_eq_getElem_cons ha, List.drop_of_length_le hb]
  rfl
theorem cmpL_right {a b : List Int} {i : Nat} (ha : a.length ≤ i) (hb : i < b.length) : cmpL (a.drop i) (b.drop i) = -1 := by
  rw [List.drop_eq_getElem_cons hb, List.drop_of_length_le ha]
  rfl
theorem cmpL_end {a b : List Int} {i : Nat} (ha : a.length ≤ i) (hb : b.length ≤ i) : cmpL (a.drop i) (b.drop i) = 0 := by
  rw [List.drop_of_length_le hb, List.drop_of_length_le ha]
  rfl

theorem isNaN_walk (x : Int) (w : World) : Calls Try.prog 69 #[.int .i64 x] w fun e w' => e = .returned (.bool false) ∧ w' = w := by
  go_enter Try.func69, Try.ntmps69
  go_wp2
  go_ret
  simp

def cmpI (x y : Int) : Int := if x < y then -1 else if y < x then 1 else 0

theorem cmpInt_walk (x y : Int) (w : World) : Calls Try.prog 54 #[.int .i64 x, .int .i64 y] w fun e w' => e = .returned (.int .i64 (cmpI x y)) ∧ w' = w := by
  unfold cmpI
  by_cases h1 : x < y
  · rw [if_pos h1]
    go_enter Try.func54, Try.ntmps54
    go_wp2_with (go_at_call 69; refine (isNaN_walk _ _).mono ?_; rintro e w' ⟨rfl, rfl⟩)
    go_ret
    exact ⟨rfl, rfl⟩
  · rw [if_neg h1]
    by_cases h2 : y < x
    · rw [if_pos h2]
      go_enter Try.func54, Try.ntmps54
      go_wp2_with (go_at_call 69; refine (isNaN_walk _ _).mono ?_; rintro e w' ⟨rfl, rfl⟩)
      go_ret
      exact ⟨rfl, rfl⟩
    · rw [if_neg h2]
      go_enter Try.func54, Try.ntmps54
      go_wp2_with (go_at_call 69; refine (isNaN_walk _ _).mono ?_; rintro e w' ⟨rfl, rfl⟩)
      go_ret
      exact ⟨rfl, rfl⟩

set_option maxRecDepth 100000 in
set_option maxHeartbeats 4000000 in
theorem compare_walk (v1 v2 : Value) (a b : List Int) (w : World) (h1 : Reads w v1 (ints a)) (h2 : Reads w v2 (ints b)) (hla : a.length ≤ 1000000) (hlb : b.length ≤ 1000000) :
    Calls Try.prog 39 #[v1, v2] w fun e w' => e = .returned (.int .i64 (cmpL a b)) ∧ w' = w := by
  obtain ⟨a1, c1, rfl⟩ := ints_shape h1
  obtain ⟨a2, c2, rfl⟩ := ints_shape h2
  have H1 := Lib.hid h1
  have H2 := Lib.hid h2
  clear h1 h2
  go_enter Try.func39, Try.ntmps39
  go_wp2_with fail
  go_loopw [11] (fun iv wr => ∃ i : Nat, i ≤ a.length ∧ i ≤ b.length ∧ iv = .int .i64 i ∧ wr = w ∧ cmpL (a.drop i) (b.drop i) = cmpL a b) (fun iv _ => a.length - (intOf iv).toNat)
  case atStart => exact ⟨0, by omega, by omega, rfl, rfl, rfl⟩
  case round =>
    obtain ⟨i, hia, hib, rfl, hw, hC⟩ := hrel
    subst hw
    have HC := Lib.hid hC
    clear hC
    by_cases hlt : i < a.length
    · obtain ⟨b1, o1, x1, hv, _⟩ := ints_form H1.out (by omega)
      cases hv
      have q1 := ints_at H1.out hlt
      by_cases hlb2 : i < b.length
      · obtain ⟨b2, o2, x2, hv, _⟩ := ints_form H2.out (by omega)
        cases hv
        have q2 := ints_at H2.out hlb2
        have hD := cmpL_drop hlt hlb2
        generalize a.getD i 0 = x at q1 hD
        generalize b.getD i 0 = y at q2 hD
        rw [HC.out] at hD
        have HD := Lib.hid hD
        clear hD
        have hcc := cmpInt_walk x y wr
        have e1 : decide ((b.length : Int) ≤ (i : Int)) = false := decide_eq_false (by omega)
        by_cases hxy : x < y
        · have e : cmpI x y = -1 := by unfold cmpI; rw [if_pos hxy]
          rw [e] at hcc
          have HD' : Hid (cmpL a b = -1) := Lib.hid (by rw [HD.out, if_pos hxy])
          clear e
          go_wp2_with (go_at_call 54; refine hcc.mono ?_; rintro e w' ⟨rfl, rfl⟩)
          go_ret
          exact ⟨congrArg (fun z => Ending.returned (.int .i64 z)) HD'.out.symm, rfl⟩
        · by_cases hyx : y < x
          · have e : cmpI x y = 1 := by unfold cmpI; rw [if_neg hxy, if_pos hyx]
            rw [e] at hcc
            have HD' : Hid (cmpL a b = 1) := Lib.hid (by rw [HD.out, if_neg hxy, if_pos hyx])
            clear e
            go_wp2_with (go_at_call 54; refine hcc.mono ?_; rintro e w' ⟨rfl, rfl⟩)
            go_ret
            exact ⟨congrArg (fun z => Ending.returned (.int .i64 z)) HD'.out.symm, rfl⟩
          · have e : cmpI x y = 0 := by unfold cmpI; rw [if_neg hxy, if_neg hyx]
            rw [e] at hcc
            have HD' : Hid (cmpL (a.drop (i + 1)) (b.drop (i + 1)) = cmpL a b) := Lib.hid (by rw [HD.out, if_neg hxy, if_neg hyx])
            clear e
            go_wp2_with (go_at_call 54; refine hcc.mono ?_; rintro e w' ⟨rfl, rfl⟩)
            go_roundw
            case rel => exact ⟨i + 1, by omega, by omega, by go_num, trivial, HD'.out⟩
            case measure => simp [intOf]; omega
      · have HD' : Hid (cmpL a b = 1) := Lib.hid (by rw [← HC.out, cmpL_left hlt (by omega)])
        have e1 : decide ((b.length : Int) ≤ (i : Int)) = true := decide_eq_true (by omega)
        go_wp2
        go_ret
        exact ⟨congrArg (fun z => Ending.returned (.int .i64 z)) HD'.out.symm, rfl⟩
    · obtain rfl : i = a.length := by omega
      by_cases hlb2 : a.length < b.length
      · have HD' : Hid (cmpL a b = -1) := Lib.hid (by rw [← HC.out, cmpL_right (by omega) hlb2])
        go_wp2
        go_ret
        exact ⟨congrArg (fun z => Ending.returned (.int .i64 z)) HD'.out.symm, rfl⟩
      · have HD' : Hid (cmpL a b = 0) := Lib.hid (by rw [← HC.out, cmpL_end (by omega) (by omega)])
        go_wp2
        go_ret
        exact ⟨congrArg (fun z => Ending.returned (.int .i64 z)) HD'.out.symm, rfl⟩
end Go.Proofs.Ytmpgjnindbklaaa
/-! Rows in order, plainly. -/
namespace Go.Proofs.Ytmpgjnindbklaaa.Ex
open Go.Proofs.Ytmpgjnindbklaaa Go.Sort

theorem cmpL_self : ∀ a, cmpL a a = 0
  | [] => rfl
  | x :: a => by simp [cmpL, cmpL_self a]
theorem cmpL_neg : ∀ a b, cmpL a b < 0 ↔ 0 < cmpL b a
  | [], [] => by simp [cmpL]
  | [], _ :: _ => by simp [cmpL]
  | _ :: _, [] => by simp [cmpL]
  | x :: a, y :: b => by
    simp only [cmpL]
    by_cases h1 : x < y
    · have h2 : ¬ y < x := by omega
      simp [h1, h2]
    · by_cases h2 : y < x
      · simp [h1, h2]
      · simp [h1, h2, cmpL_neg a b]
theorem cmpL_eq : ∀ a b, ¬ cmpL a b < 0 → ¬ cmpL b a < 0 → a = b
  | [], [], _, _ => rfl
  | [], _ :: _, h, _ => by simp [cmpL] at h
  | _ :: _, [], _, h => by simp [cmpL] at h
  | x :: a, y :: b, h, k => by
    simp only [cmpL] at h k
    by_cases h1 : x < y
    · simp [h1] at h
    · by_cases h2 : y < x
      · simp [h2] at k
      · simp only [h1, h2, if_false] at h k
        rw [cmpL_eq a b h k, show x = y by omega]
theorem cmpL_trans : ∀ a b c, cmpL a b < 0 → cmpL b c < 0 → cmpL a c < 0
  | [], [], _, h, _ => by simp [cmpL] at h
  | [], _ :: _, [], _, k => by simp [cmpL] at k
  | [], _ :: _, _ :: _, _, _ => by simp [cmpL]
  | _ :: _, [], _, h, _ => by simp [cmpL] at h
  | _ :: _, _ :: _, [], _, k => by simp [cmpL] at k
  | x :: a, y :: b, z :: c, h, k => by
    simp only [cmpL] at h k ⊢
    by_cases h1 : x < y
    · by_cases k1 : y < z
      · rw [if_pos (by omega)]; decide
      · rw [if_neg k1] at k
        by_cases k2 : z < y
        · simp [k2] at k
        · rw [if_pos (by omega)]; decide
    · rw [if_neg h1] at h
      by_cases h2 : y < x
      · simp [h2] at h
      · rw [if_neg h2] at h
        have hxy : x = y := by omega
        subst hxy
        by_cases k1 : x < z
        · rw [if_pos k1]; decide
        · rw [if_neg k1] at k ⊢
          by_cases k2 : z < x
          · simp [k2] at k
          · rw [if_neg k2] at k ⊢
            exact cmpL_trans a b c h k
/-- Not ahead is transitive. -/
theorem cmpL_ntrans (a b c : List Int) (h : ¬ cmpL a b < 0) (k : ¬ cmpL b c < 0) : ¬ cmpL a c < 0 := by
  intro hac
  by_cases h1 : cmpL b a < 0
  · exact k (cmpL_trans b a c h1 hac)
  · have := cmpL_eq a b h h1
    subst this
    exact k hac
theorem swo_cmpL {α : Type} (row : α → List Int) : SWO (ltOf fun i j => cmpL (row i) (row j)) where
  irrefl x := by simp [ltOf, cmpL_self]
  trans x y z h k := by
    simp only [ltOf, decide_eq_true_eq] at *
    exact cmpL_trans _ _ _ h k
  ntrans x y z h k := by
    simp only [ltOf, decide_eq_false_iff_not] at *
    exact cmpL_ntrans _ _ _ h k

/-- Rows in order: none is ahead of an earlier one. -/
def leL (a b : List Int) : Bool := !decide (cmpL b a < 0)
def sortL (ls : List (List Int)) : List (List Int) := ls.mergeSort leL
theorem sortL_nil : sortL [] = [] := by simp [sortL]
theorem leL_trans (a b c : List Int) (h : leL a b = true) (k : leL b c = true) : leL a c = true := by
  simp only [leL, Bool.not_eq_true', decide_eq_false_iff_not] at *
  exact cmpL_ntrans _ _ _ k h
theorem leL_total (a b : List Int) : (leL a b || leL b a) = true := by
  simp only [leL, Bool.or_eq_true, Bool.not_eq_true', decide_eq_false_iff_not]
  by_cases h : cmpL b a < 0
  · exact .inr fun k => by have := (cmpL_neg b a).1 h; omega
  · exact .inl h
theorem sortL_perm (ls : List (List Int)) : (sortL ls).Perm ls := List.mergeSort_perm _ _
theorem sortL_sorted (ls : List (List Int)) : (sortL ls).Pairwise fun a b => ¬ cmpL b a < 0 := by
  have := List.pairwise_mergeSort leL_trans leL_total ls
  refine this.imp ?_
  intro a b h
  simpa [leL] using h
theorem sortL_unique {xs ls : List (List Int)} (hp : xs.Perm ls) (hs : xs.Pairwise fun a b => ¬ cmpL b a < 0) : xs = sortL ls := by
  refine List.Perm.eq_of_pairwise (le := fun x y => ¬ cmpL y x < 0) ?_ hs (sortL_sorted ls) (hp.trans (sortL_perm ls).symm)
  intro a b _ _ h1 h2
  exact (cmpL_eq a b h2 h1)
end Go.Proofs.Ytmpgjnindbklaaa.Ex
namespace Go.Proofs.Ytmpgjnindbklaaa
open Go.RowKit BA Ex Go.Shelf Go.Sort

theorem sort_walk (w : World) (base : Nat) (v : Value) (vs : List Value) (ls : List (List Int)) (h : OwnG w base v vs ls) (hl : ∀ l ∈ ls, l.length ≤ 1000000) (hn : ls.length ≤ 1000000) :
    Calls Try.prog 38 #[v, .func (.func 39) #[] #[]] w fun e w' => e = .returned (.tuple #[]) ∧ ∃ vs', OwnG w' base v vs' (sortL ls) ∧ w.grownBy w' v.ownBlock := by
  have hlen : vs.length = ls.length := by have := h.own.len; omega
  obtain ⟨e, h0, h1⟩ := id h.own
  rcases h1 with ⟨hh, hx⟩ | ⟨g, cap, cur, hv, hg, hb, hnc, hcap, hsz, ht⟩
  · subst hh
    have hl0 : ls = [] := List.length_eq_zero_iff.1 hx
    subst hl0
    have hcon := AnyF.slices_SortFunc_none (P := Try.prog) (ρ := laySort_ren) { laySort with } none 0 (.func (.func 39) #[] #[]) w
    change Calls Try.prog 38 _ _ _ at hcon
    refine hcon.mono ?_
    rintro e w' ⟨rfl, rfl⟩
    exact ⟨rfl, vs, by rw [sortL_nil]; exact h, World.grownBy.refl _ _⟩
  · cases hls : ls with
    | nil =>
      subst hls
      subst hv
      have hcon := AnyF.slices_SortFunc_none (P := Try.prog) (ρ := laySort_ren) { laySort with } (some ⟨g, 0, none⟩) cap (.func (.func 39) #[] #[]) w
      change Calls Try.prog 38 _ _ _ at hcon
      refine hcon.mono ?_
      rintro e w' ⟨rfl, rfl⟩
      exact ⟨rfl, vs, by rw [sortL_nil]; exact h, World.grownBy.refl _ _⟩
    | cons l0 lt =>
      rw [← hls]
      have hpos : 0 < ls.length := by rw [hls]; simp
      obtain ⟨n, hn1⟩ : ∃ n, ls.length = n + 1 := ⟨ls.length - 1, by omega⟩
      subst hv
      have hgw : g < w.heap.size := by rw [Array.getElem?_eq_some_iff] at hb; exact hb.1
      let enc : Fin (n + 1) → Value := fun i => vs.getD i undef
      let row : Fin (n + 1) → List Int := fun i => ls.getD i []
      let cf : Fin (n + 1) → Fin (n + 1) → Int := fun i j => cmpL (row i) (row j)
      let ss : List (Fin (n + 1)) := List.finRange (n + 1)
      have hss : ss.length = ls.length := by simp [ss, hn1]
      have henc : ss.map enc = vs := by
        apply List.ext_getElem (by simp [ss, hlen, hn1])
        intro i h1 h2
        simp [ss, enc, h2]
      have hrow : ss.map row = ls := by
        apply List.ext_getElem (by simp [ss, hn1])
        intro i h1 h2
        simp [ss, row, h2]
      have hrd : ∀ i : Fin (n + 1), OwnS w base 1 (enc i) (row i).length (ints (row i)) ∧ ((enc i).ownBlock = none ∨ (enc i).ownBlock ≠ some g) := fun i => by
        have hi1 : i.1 < vs.length := by have := i.2; omega
        have hi2 : i.1 < ls.length := by have := i.2; omega
        exact h.rows i.1 _ _ (by simp [enc, hi1]) (by simp [row, hi2])
      have hrl : ∀ i : Fin (n + 1), (row i).length ≤ 1000000 := fun i => by
        have hi2 : i.1 < ls.length := by have := i.2; omega
        exact hl _ (by simp [row, hi2])
      have hone : OneCell enc := fun i => OwnS.one (hrd i).1
      have hgr : ∀ (m : Nat) (os : Array Obj) (dk : Array (Fin (n + 1))), w.grownBy (sortWorld enc w g 0 m dk os) (some g) := fun m os dk => grownBy_putRow (enc := enc) (w := w) (g := g) (n := m) (os := os) dk
      have hcmp : CmpLays1 Try.prog 39 #[] enc cf g 0 ss.toArray.size w := by
        intro m os dk hdk x y
        have hx := (hrd x).1.kept (hgr m os dk) (hrd x).2
        have hy := (hrd y).1.kept (hgr m os dk) (hrd y).2
        refine (compare_walk (enc x) (enc y) (row x) (row y) _ hx.reads hy.reads (hrl x) (hrl y)).mono ?_
        rintro e w' ⟨rfl, rfl⟩
        exact ⟨rfl, 0, #[], by rw [grow_empty]; rfl⟩
      have hH : Holds enc w g 0 ss.toArray := holds_blk hb (by rw [henc, hss, ← Nat.mul_one ls.length]; exact ht)
      have eg : ∀ args w, (callFunc 39 args).run Try.prog w = .ok (.enter 39 args) w := enters_of Try.func39 (by kernel_rfl) rfl
      have hcon := Any.slices_SortFunc laySort enc hone cf (swo_cmpL row) 39 #[] g 0 cap ss.toArray w eg hcmp hH hgw (by simp [hss]; omega)
      rw [List.size_toArray, hss] at hcon
      change Calls Try.prog 38 _ _ _ at hcon
      refine hcon.mono ?_
      rintro e w' ⟨rfl, d', k, os, hp, hs, rfl⟩
      have hdl : d'.toList.length = ss.length := by have := hp.1; simpa using this
      have hd' : d' = d'.toList.toArray := by simp
      have hperm : d'.toList.Perm ss := by
        obtain ⟨e1, _, e3⟩ := hp
        have e4 : d'.size = ls.length := by simpa [hss] using e1
        have h1 : d'.extract 0 ls.length = d' := by rw [← e4]; exact Array.extract_size
        have h2 : ss.toArray.extract 0 ls.length = ss.toArray := by
          have h3 : ss.toArray.size = ls.length := by simp [hss]
          rw [← h3]; exact Array.extract_size
        rw [h1, h2] at e3
        simpa using e3
      have hsorted : d'.toList.map row = sortL ls := by
        refine sortL_unique ?_ ?_
        · rw [← hrow]; exact hperm.map row
        · rw [List.pairwise_map]
          rw [List.pairwise_iff_getElem]
          intro i j hi hj hij
          have hi' : i < d'.size := by simpa using hi
          have hj' : j < d'.size := by simpa using hj
          have := hs i j (Nat.zero_le _) hij (by rw [← hss, ← hdl]; exact hj)
          rw [getElem!_pos d' i hi', getElem!_pos d' j hj'] at this
          simpa [ltOf, cf] using this
      have hgk := hgr k os d'
      refine ⟨rfl, d'.toList.map enc, ⟨?_, ?_⟩, hgk⟩
      · have h3 := ownS_put (enc := enc) (n := k) (ss := ss) (ts := d'.toList) (by rw [henc]; exact h.own) hdl (g := g) (cap := cap) (by rw [hss]) os
        rw [← hd'] at h3
        have e1 : (sortL ls).length = ls.length := by rw [← hsorted, List.length_map, hdl, hss]
        rw [e1]
        exact h3
      · intro j u l hu hlj
        rw [← hsorted] at hlj
        rw [List.getElem?_map] at hu hlj
        cases hx : d'.toList[j]? with
        | none => rw [hx] at hu; cases hu
        | some x =>
          rw [hx] at hu hlj
          cases hu
          cases hlj
          exact ⟨(hrd x).1.kept hgk (hrd x).2, (hrd x).2⟩
end Go.Proofs.Ytmpgjnindbklaaa
