import Derived.Test.YtmpgjnindbklaaaEHas
namespace Go.Proofs.Ytmpgjnindbklaaa
open Go.RowKit BA Ex

/-- A number out of bounds. -/
def outb (m n : Int) : Bool := decide (n < 0) || decide (m ≤ n)


set_option maxHeartbeats 1000000 in
theorem within_fn (n m : Int) (b : Nat) (w : World) (h : w.cell? ⟨b, 0, none⟩ = some (.int .i64 m)) :
    Calls Try.prog 48 #[.int .i64 n, .pointer (some ⟨b, 0, none⟩)] w fun e w' => e = .returned (.bool (outb m n)) ∧ w' = w := by
  go_enter Try.func48, Try.ntmps48
  go_wp2
  all_goals (go_ret; refine ⟨congrArg (fun b => Ending.returned (.bool b)) ?_, rfl⟩; first | (simp_all [outb]; done) | (simp_all [outb]; omega))

theorem ints_at {w : World} {b o n c k : Nat} {ts : List Int} (h : Reads w (.slice (some ⟨b, o, none⟩) n c) (ints ts)) (hk : k < ts.length) : w.cell? ⟨b, o + k, none⟩ = some (.int .i64 (ts.getD k 0)) := by
  rcases h with ⟨h, _⟩ | ⟨_, b', o', c', hv, _, _, h3⟩
  · have : ts = [] := by simpa [ints] using h
    rw [this] at hk; simp at hk
  · cases hv
    exact h3 k _ (by simp [ints, hk])
theorem ints_form {w : World} {v : Value} {ts : List Int} (h : Reads w v (ints ts)) (h0 : 0 < ts.length) : ∃ b o c, v = .slice (some ⟨b, o, none⟩) ts.length c ∧ b < w.heap.size := by
  have h' := h
  rcases h with ⟨h, _⟩ | ⟨hne, b', o', c', hv, _, _, h3⟩
  · have : ts = [] := by simpa [ints] using h
    rw [this] at h0; simp at h0
  · obtain rfl := hv
    refine ⟨b', o', c', by simp [ints], World.block_lt_of_cell? w _ (h3 0 (.int .i64 (ts.getD 0 0)) (by simp [ints, h0]))⟩
theorem ints_shape {w : World} {v : Value} {ts : List Int} (h : Reads w v (ints ts)) : ∃ ao c, v = .slice ao ts.length c := by
  obtain ⟨ao, c, hv⟩ := h.shape
  exact ⟨ao, c, by simpa [ints] using hv⟩

set_option maxHeartbeats 1000000 in
theorem indexFn_walk (l : List Int) (v : Value) (m : Int) (b : Nat) (w : World) (h : Reads w v (ints l)) (hl : l.length ≤ 1000) (hm : w.cell? ⟨b, 0, none⟩ = some (.int .i64 m)) :
    Calls Try.prog 58 #[v, .func (.func 48) #[] #[.pointer (some ⟨b, 0, none⟩)]] w fun e w' => (∃ r : Int, e = .returned (.int .i64 r) ∧ decide (0 ≤ r) = l.any (outb m)) ∧ Below w.heap.size w w' := by
  obtain ⟨ao, c, rfl⟩ := ints_shape h
  have H := Lib.hid h
  have hbs := World.block_lt_of_cell? w _ hm
  have HM := Lib.hid hm
  clear h hm
  go_enter Try.func58, Try.ntmps58
  go_wp2
  go_loopw [8] (fun kv wr => ∃ k : Nat, k ≤ l.length ∧ kv = .int .i64 k ∧ Below w.heap.size w wr ∧ ∀ j, j < k → outb m (l.getD j 0) = false) (fun kv _ => l.length - (intOf kv).toNat)
  case atStart => exact ⟨0, by omega, rfl, Below.refl _ _, fun j hj => by omega⟩
  case round =>
    obtain ⟨k, hk, rfl, hB, hA⟩ := hrel
    by_cases hlt : k < l.length
    · obtain ⟨b2, o2, c2, hv, hb2⟩ := ints_form H.out (by omega)
      cases hv
      have hc := (hB.cell (p := ⟨b2, o2 + k, none⟩) hb2).trans (ints_at H.out hlt)
      have hm := (hB.cell (p := ⟨b, 0, none⟩) hbs).trans HM.out
      generalize hx : l.getD k 0 = x at hc
      have HX := Lib.hid hx
      clear hx
      cases hob : outb m x with
      | true =>
        go_wp2_with (go_at_call 48; refine (within_fn _ _ _ _ hm).mono ?_; rintro e w' ⟨rfl, rfl⟩; rw [hob])
        go_ret
        refine ⟨⟨k, rfl, ?_⟩, hB⟩
        have : l.any (outb m) = true := List.any_eq_true.2 ⟨x, by have := HX.out; rw [← this]; simp [hlt], hob⟩
        rw [this]
        simp
      | false =>
        go_wp2_with (go_at_call 48; refine (within_fn _ _ _ _ hm).mono ?_; rintro e w' ⟨rfl, rfl⟩; rw [hob])
        go_roundw
        case rel =>
          refine ⟨k + 1, by omega, by go_num, hB, fun j hj => ?_⟩
          by_cases hjk : j = k
          · subst hjk; rw [HX.out]; exact hob
          · exact hA j (by omega)
        case measure => simp [intOf]; omega
    · obtain rfl : k = l.length := by omega
      go_wp2
      go_ret
      refine ⟨⟨-1, rfl, ?_⟩, hB⟩
      have : l.any (outb m) = false := by
        rw [List.any_eq_false]
        intro x hx
        obtain ⟨j, hj, rfl⟩ := List.getElem_of_mem hx
        have := hA j hj
        simpa [hj] using this
      rw [this]
      simp

set_option maxHeartbeats 1000000 in
theorem containsFn_walk (l : List Int) (v : Value) (m : Int) (b : Nat) (w : World) (h : Reads w v (ints l)) (hl : l.length ≤ 1000) (hm : w.cell? ⟨b, 0, none⟩ = some (.int .i64 m)) :
    Calls Try.prog 47 #[v, .func (.func 48) #[] #[.pointer (some ⟨b, 0, none⟩)]] w fun e w' => e = .returned (.bool (l.any (outb m))) ∧ Below w.heap.size w w' := by
  obtain ⟨ao, c, rfl⟩ := ints_shape h
  go_enter Try.func47, Try.ntmps47
  go_wp2_with (go_at_call 58; refine (indexFn_walk l _ m b _ h hl hm).mono ?_; rintro e w1 ⟨⟨r, rfl, hr⟩, hb⟩)
  go_ret
  exact ⟨rfl, hb⟩

theorem not_any_outb (m : Int) (l : List Int) : (!l.any (outb m)) = l.all fun n => decide (0 ≤ n) && decide (n < m) := by
  induction l with
  | nil => rfl
  | cons x l ih =>
    rw [List.any_cons, List.all_cons, ← ih, Bool.not_or]
    congr 1
    unfold outb
    by_cases h1 : x < 0 <;> by_cases h2 : m ≤ x <;> simp [h1, h2] <;> omega

set_option maxHeartbeats 1000000 in
theorem within_walk (l : List Int) (v : Value) (m : Int) (w : World) (h : Reads w v (ints l)) (hl : l.length ≤ 1000) :
    Calls Try.prog 33 #[v, .int .i64 m] w fun e w' => e = .returned (.bool (l.all fun n => decide (0 ≤ n) && decide (n < m))) ∧ Below w.heap.size w w' := by
  obtain ⟨ao, c, rfl⟩ := ints_shape h
  have hb0 : Below w.heap.size w (w.alloc (.cells #[.int .i64 m] 3)) := (Below.refl _ _).alloc (Nat.le_refl _) _
  have hR0 := h.same fun k _ hk => hb0.block k hk
  have hm0 : (w.alloc (.cells #[.int .i64 m] 3)).cell? ⟨w.heap.size, 0, none⟩ = some (.int .i64 m) := by simp
  go_enter Try.func33, Try.ntmps33
  go_wp2_with (go_at_call 47; refine (containsFn_walk l _ m w.heap.size _ hR0 hl hm0).mono ?_; rintro e w1 ⟨rfl, hb⟩)
  go_ret
  exact ⟨congrArg (fun b => Ending.returned (.bool b)) (not_any_outb m l), hb0.trans (hb.mono (by simp))⟩
end Go.Proofs.Ytmpgjnindbklaaa
