import Derived.Test.YtmpgjnindbklaaaEEnds
import Derived.Test.YtmpgjnindbklaaaECopied
/-! The two little programs that 'known' looks at, plainly. -/
namespace Go.Proofs.Ytmpgjnindbklaaa.Ex
open Go.Proofs.Ytmpgjnindbklaaa

def addsP : Lt := ⟨[0], [[⟨1, 0, 0, 0⟩, ⟨7, 0, 0, 1⟩, ⟨2, 0, 0, 0⟩], [⟨1, 0, 0, 0⟩, ⟨7, 0, 0, 1⟩, ⟨2, 0, 0, 0⟩]]⟩
def badP : Lt := ⟨[0], [[⟨6, 0, 1, 0⟩, ⟨2, 0, 0, 0⟩], [⟨1, 1, 0, 0⟩, ⟨10, 1, 0, 0⟩]]⟩

set_option maxRecDepth 100000 in
theorem adds_check : check addsP = true := by kernel_rfl
set_option maxRecDepth 100000 in
theorem adds_explore : (exploreF addsP).1.ends = 3 ∧ (exploreF addsP).1.bad = false ∧ (exploreF addsP).2 = 0 := by
  refine ⟨?_, ?_, ?_⟩ <;> kernel_rfl
set_option maxRecDepth 100000 in
theorem bad_explore : (exploreF badP).1.turns = [0, 0, 1, 1] ∧ (exploreF badP).1.bad = true ∧ (exploreF badP).2 = 0 := by
  refine ⟨?_, ?_, ?_⟩ <;> kernel_rfl
def addsG : List Met := (goes addsP).getD []
set_option maxRecDepth 100000 in
theorem adds_goes : goes addsP = some addsG := by kernel_rfl
set_option maxRecDepth 100000 in
theorem adds_rows : endRows addsP addsG addsG.length = [[2, 1, 0, 0, 0, 2, 0, 0, 0], [1, 1, 0, 0, 0, 1, 0, 0, 0], [2, 2, 0, 0, 0, 1, 0, 0, 0]] := by kernel_rfl
end Go.Proofs.Ytmpgjnindbklaaa.Ex
namespace Go.Proofs.Ytmpgjnindbklaaa
open Go.RowKit BA Ex

theorem wpList_append_lines {ops : Array Oper} {rest : List Oper} {o : Oper} {a : Act} {w : World} {Q : Exit → Act → World → Prop} (hgd : o.guard = none) (s x : Operand)
    (ho : o.op = .call { callee := .builtin .append, args := #[s, x], argTypes := #[46, 46] }) (hs : a.eval s = .slice none 0 0) (sv : Value) (t : List Ln) (hx : a.eval x = sv) (hr : Lines w sv t) (h400 : t.length ≤ 1000)
    (h : ∀ v' w', OwnS w' w.heap.size 4 v' t.length (flatLn t) → Below w.heap.size w w' → wpList Try.prog ops Q rest (a.put o.dst v') w') : wpList Try.prog ops Q (o :: rest) a w := by
  refine wpList_plain hgd fun K hK => ?_
  obtain ⟨v', w', hrun, h2, h3⟩ := run_append_lines w o.type sv t hr h400
  unfold Oper.wp execOp
  simp only [ho, resolve, invoke, builtin, Sem.run_bind, Sem.run_pure, Result.andThen_ok, List.map_toArray, List.map_cons, List.map_nil, hs, hx, hrun]
  exact hK _ _ (h v' w' h2 h3)

theorem ownS_new (w : World) (cs : Array Value) (te : TypeId) (n size : Nat) (h : cs.size = n * size) (hn : n ≤ maxLen) : OwnS (w.alloc (.cells cs te (0, 0))) w.heap.size size (.slice (some ⟨w.heap.size, 0, none⟩) n n) n cs.toList :=
  ⟨te, by simp [h], .inr ⟨_, n, cs, rfl, Nat.le_refl _, heap_alloc_new _ _, Nat.le_refl _, hn, h, by rw [← h, ← Array.length_toList]; exact List.take_length⟩⟩

/-- Two threads, as they lie. -/
theorem threads_two {w : World} {v a b : Value} {ta tb : List Ln} (hv : Reads w v [a, b]) (ha : Lines w a ta) (hb : Lines w b tb) : Threads w v [ta, tb] :=
  ⟨fun k => if k = 0 then a else b, by
    rw [show (List.range [ta, tb].length).map (fun k => if k = 0 then a else b) = [a, b] from rfl]
    exact hv, fun k hk => by
    have hk' : k = 0 ∨ k = 1 := by simp at hk; omega
    rcases hk' with rfl | rfl
    · exact ha
    · exact hb⟩
theorem box_one (a : Option Addr) (m c : Nat) (b : Option Addr) (n d : Nat) : (#[Value.slice a m c, Value.slice b n d] : Array Value).all (·.oneCell') = true := by
  rw [Array.all_eq_true_iff_forall_mem]
  intro x hx
  simp only [List.mem_toArray, List.mem_cons, List.not_mem_nil, or_false] at hx
  rcases hx with rfl | rfl <;> rfl
theorem info_little : (Try.prog.info? 25).map (·.size) = some 2 := by kernel_rfl

set_option maxRecDepth 100000 in
set_option maxHeartbeats 4000000 in
theorem adds_walk (w : World) : Calls Try.prog 25 #[] w fun e w' => ∃ sw st, e = .returned (.agg #[sw, st]) ∧ PHas w' sw st addsP ∧ Below w.heap.size w w' := by
  have hi : Try.prog.info? 46 = some Try.t46 := by kernel_rfl
  go_enter Try.func25, Try.ntmps25
  go_upto_region 2 with fail
  have hb1 : Below w.heap.size w (w.alloc (.cells #[.slice none 0 0, .slice none 0 0] 25 (0, 0))) := (Below.refl _ _).alloc (Nat.le_refl _) _
  have hx1 : (w.alloc (.cells #[.slice none 0 0, .slice none 0 0] 25 (0, 0))).heap[w.heap.size]? = some (.cells #[.slice none 0 0, .slice none 0 0] 25 (0, 0)) := heap_alloc_new _ _
  have hsz : (w.alloc (.cells #[.slice none 0 0, .slice none 0 0] 25 (0, 0))).heap.size = w.heap.size + 1 := by simp
  generalize (w.alloc (.cells #[.slice none 0 0, .slice none 0 0] 25)) = w1 at hb1 hx1 hsz ⊢
  have ho2 := ownS_new w1 #[Value.int .i64 1, Value.int .i64 0, Value.int .i64 0, Value.int .i64 0, Value.int .i64 7, Value.int .i64 0, Value.int .i64 0, Value.int .i64 1, Value.int .i64 2, Value.int .i64 0, Value.int .i64 0, Value.int .i64 0] 55 3 4 rfl (by decide)
  have hb2 : Below w1.heap.size w1 (w1.alloc (.cells #[Value.int .i64 1, Value.int .i64 0, Value.int .i64 0, Value.int .i64 0, Value.int .i64 7, Value.int .i64 0, Value.int .i64 0, Value.int .i64 1, Value.int .i64 2, Value.int .i64 0, Value.int .i64 0, Value.int .i64 0] 55 (0, 0))) := (Below.refl _ _).alloc (Nat.le_refl _) _
  have hs2 : (w1.alloc (.cells #[Value.int .i64 1, Value.int .i64 0, Value.int .i64 0, Value.int .i64 0, Value.int .i64 7, Value.int .i64 0, Value.int .i64 0, Value.int .i64 1, Value.int .i64 2, Value.int .i64 0, Value.int .i64 0, Value.int .i64 0] 55 (0, 0))).heap.size = w1.heap.size + 1 := by simp
  rw [hsz] at ho2 hs2
  have hl2 : Lines (w1.alloc (.cells #[Value.int .i64 1, Value.int .i64 0, Value.int .i64 0, Value.int .i64 0, Value.int .i64 7, Value.int .i64 0, Value.int .i64 0, Value.int .i64 1, Value.int .i64 2, Value.int .i64 0, Value.int .i64 0, Value.int .i64 0] 55 (0, 0))) (.slice (some ⟨w.heap.size + 1, 0, none⟩) 3 3) [⟨1, 0, 0, 0⟩, ⟨7, 0, 0, 1⟩, ⟨2, 0, 0, 0⟩] := OwnS.lines (t := [⟨1, 0, 0, 0⟩, ⟨7, 0, 0, 1⟩, ⟨2, 0, 0, 0⟩]) ho2
  have hx2 := (hb2.block w.heap.size (by omega)).trans hx1
  have hb02 := hb1.trans (hb2.mono (by omega))
  generalize (w1.alloc (.cells #[Value.int .i64 1, Value.int .i64 0, Value.int .i64 0, Value.int .i64 0, Value.int .i64 7, Value.int .i64 0, Value.int .i64 0, Value.int .i64 1, Value.int .i64 2, Value.int .i64 0, Value.int .i64 0, Value.int .i64 0] 55)) = w2 at ho2 hl2 hx2 hb02 hs2 ⊢
  clear hb1 hx1 hb2 hsz
  have ho3 := ownS_new w2 #[.int .i64 0] 3 1 1 rfl (by decide)
  have hb3 : Below w2.heap.size w2 (w2.alloc (.cells #[.int .i64 0] 3 (0, 0))) := (Below.refl _ _).alloc (Nat.le_refl _) _
  have hl3 := hl2.same fun k hk => hb3.block k hk
  have hw3 : Reads (w2.alloc (.cells #[.int .i64 0] 3 (0, 0))) (.slice (some ⟨w2.heap.size, 0, none⟩) 1 1) (ints [0]) := OwnS.reads ho3
  have hx3 := (hb3.block w.heap.size (by omega)).trans hx2
  have hb03 := hb02.trans (hb3.mono (by omega))
  have hs3 : (w2.alloc (.cells #[.int .i64 0] 3 (0, 0))).heap.size = w2.heap.size + 1 := by simp
  have ho23 := OwnS.below ho2 hb3
  clear ho2
  generalize hN : w.heap.size = N at *
  have HO23 := Lib.hid ho23
  have HO3 := Lib.hid ho3
  have HL3 := Lib.hid hl3
  have HW3 := Lib.hid hw3
  have HX3 := Lib.hid hx3
  have HB03 := Lib.hid hb03
  have HS3 := Lib.hid hs3
  have HN := Lib.hid hN
  have hN2 : N < w2.heap.size := by omega
  clear hl3 hw3 hx3 hb03 hs3 hl2 hx2 hb02 hs2 ho3 hb3 hN hi ho23
  go_wp2_with (first
    | (at_builtin; refine wpList_append_lines rfl _ (.tmp 8) rfl rfl (.slice (some ⟨N + 1, 0, none⟩) 3 3) [⟨1, 0, 0, 0⟩, ⟨7, 0, 0, 1⟩, ⟨2, 0, 0, 0⟩] rfl HL3.out (by decide) ?_; intro v4 w4 hv4 hb4; obtain ⟨ua, uc, hue, huo⟩ := made_lines (m := 3) hv4 rfl; subst hue; have hx4 := (hb4.block N (by rw [HS3.out]; omega)).trans HX3.out; have hN4 : N < w4.heap.size := (by have := hb4.size; rw [HS3.out] at this; omega); have hx5 : (w4.alloc (.cells #[.slice (some ⟨N + 1, 0, none⟩) 3 3, .slice ua 3 uc] 46 (0, 0))).heap[N]? = some (.cells #[.slice none 0 0, .slice none 0 0] 25 (0, 0)) := (Below.heap_alloc _ _ _ hN4).trans hx4; have HX5 := Lib.hid hx5; have HV4 := Lib.hid huo; have HB4 := Lib.hid hb4; clear hv4 hb4 huo hx4 hx5)
    | refine wpList_store_row rfl 25 (.tmp 0) (.tmp 11) rfl N #[.slice (some ⟨w2.heap.size, 0, none⟩) 1 1, .slice (some ⟨w4.heap.size, 0, none⟩) 2 2] rfl rfl 25 _ HX5.out info_little rfl (box_one _ _ _ _ _ _) ?_)
  refine bodyPost_ret (results_cell_row rfl _ _ N 25 #[.slice (some ⟨w2.heap.size, 0, none⟩) 1 1, .slice (some ⟨w4.heap.size, 0, none⟩) 2 2] (0, 0) _ rfl (heap_setRow HX5.out) Try.underlying25 rfl info_little) rfl ?_
  have hb4 := HB4.out
  have hs4 := hb4.size
  rw [HS3.out] at hs4
  have hb5 : Below w4.heap.size w4 (w4.alloc (.cells #[.slice (some ⟨N + 1, 0, none⟩) 3 3, .slice ua 3 uc] 46 (0, 0))) := (Below.refl _ _).alloc (Nat.le_refl _) _
  have ho5 := ownS_new w4 #[.slice (some ⟨N + 1, 0, none⟩) 3 3, .slice ua 3 uc] 46 2 1 rfl (by decide)
  have hg6 := grown_setRow (w4.alloc (.cells #[.slice (some ⟨N + 1, 0, none⟩) 3 3, .slice ua 3 uc] 46 (0, 0))) N #[.slice (some ⟨w2.heap.size, 0, none⟩) 1 1, .slice (some ⟨w4.heap.size, 0, none⟩) 2 2]
  have hne : ∀ (k : Nat), N < k → some k ≠ some N := fun k hk e => by cases e; omega
  have k1 := (OwnS.below (OwnS.below HO3.out hb4) hb5).kept hg6 (.inr (hne _ hN2))
  have k2 := (OwnS.below (OwnS.below HO23.out hb4) hb5).kept hg6 (.inr (hne _ (Nat.lt_succ_self N)))
  have k3 := (OwnS.below HV4.out hb5).kept hg6 (by
    cases hb : (Value.slice ua 3 uc).ownBlock with
    | none => exact .inl rfl
    | some k => exact .inr (hne _ (by have := (HV4.out.blk k hb).1; rw [HS3.out] at this; omega)))
  have k5 := ho5.kept hg6 (.inr (hne _ (by omega)))
  have hbb : Below N w (w4.alloc (.cells #[.slice (some ⟨N + 1, 0, none⟩) 3 3, .slice ua 3 uc] 46 (0, 0))) := (HB03.out.trans (hb4.mono (by rw [HS3.out]; omega))).trans (hb5.mono (by omega))
  rw [HN.out]
  exact ⟨_, _, rfl, ⟨OwnS.reads k1, threads_two (OwnS.reads k5) (OwnS.lines k2) (OwnS.lines k3)⟩, below_setRow hbb _ (Nat.le_refl _)⟩
end Go.Proofs.Ytmpgjnindbklaaa
namespace Go.Proofs.Ytmpgjnindbklaaa
open Go.RowKit BA Ex

theorem adds_in : PIn addsP := by
  constructor
  · intro i
    match i with
    | 0 => rfl
    | n + 1 => rfl
  · intro k hk i hi
    have hk' : k = 0 ∨ k = 1 := by simp [addsP] at hk; omega
    rcases hk' with rfl | rfl
    · have hi' : i = 0 ∨ i = 1 ∨ i = 2 := by simp [addsP] at hi; omega
      rcases hi' with rfl | rfl | rfl <;> exact ⟨rfl, rfl⟩
    · have hi' : i = 0 ∨ i = 1 ∨ i = 2 := by simp [addsP] at hi; omega
      rcases hi' with rfl | rfl | rfl <;> exact ⟨rfl, rfl⟩
theorem bad_in : PIn badP := by
  constructor
  · intro i
    match i with
    | 0 => rfl
    | n + 1 => rfl
  · intro k hk i hi
    have hk' : k = 0 ∨ k = 1 := by simp [badP] at hk; omega
    rcases hk' with rfl | rfl
    · have hi' : i = 0 ∨ i = 1 := by simp [badP] at hi; omega
      rcases hi' with rfl | rfl <;> exact ⟨rfl, rfl⟩
    · have hi' : i = 0 ∨ i = 1 := by simp [badP] at hi; omega
      rcases hi' with rfl | rfl <;> exact ⟨rfl, rfl⟩
theorem bad_check : check badP = true := by kernel_rfl

theorem adds_ex (sw st : Value) (w : World) (h : PHas w sw st addsP) : Calls Try.prog 11 #[.agg #[sw, st]] w fun e w' => ∃ v n, Below w.heap.size w w' ∧
    e = .returned (.tuple #[.agg #[.int .i64 n, .int .i64 3, .bool false, v], .int .i64 0]) ∧ v.oneCell' = true := by
  obtain ⟨e1, e2, e3⟩ := adds_explore
  refine (explore_walk sw st addsP w h adds_in).mono ?_
  rintro e w' ⟨v, hb, rfl, hv⟩
  rw [e1, e2, e3]
  exact ⟨v, _, hb, rfl, OwnS.one hv⟩
theorem bad_ex (sw st : Value) (w : World) (h : PHas w sw st badP) : Calls Try.prog 11 #[.agg #[sw, st]] w fun e w' => ∃ v n m, Below w.heap.size w w' ∧
    e = .returned (.tuple #[.agg #[.int .i64 n, .int .i64 m, .bool true, v], .int .i64 0]) ∧ OwnS w' w.heap.size 1 v 4 (ints [0, 0, 1, 1]) := by
  obtain ⟨e1, e2, e3⟩ := bad_explore
  refine (explore_walk sw st badP w h bad_in).mono ?_
  rintro e w' ⟨v, hb, rfl, hv⟩
  rw [e2, e3]
  rw [e1] at hv
  exact ⟨v, _, _, hb, rfl, hv⟩
def addsR : List (List Int) := [[1, 1, 0, 0, 0, 1, 0, 0, 0], [2, 1, 0, 0, 0, 2, 0, 0, 0], [2, 2, 0, 0, 0, 1, 0, 0, 0]]
theorem adds_ends : endsF addsP = (addsR, 0) := by
  unfold endsF
  rw [if_pos adds_check, adds_goes]
  dsimp only
  rw [adds_rows]
  rw [← sortL_unique (xs := addsR) (by decide) (by decide)]
theorem adds_en (sw st : Value) (w : World) (h : PHas w sw st addsP) : Calls Try.prog 16 #[.agg #[sw, st]] w fun e w' => ∃ v vs, Below w.heap.size w w' ∧
    e = .returned (.tuple #[v, .int .i64 0]) ∧ OwnG w' w.heap.size v vs addsR := by
  refine (ends_walk sw st addsP w h adds_in).mono ?_
  rintro e w' ⟨v, vs, hb, rfl, hv⟩
  rw [adds_ends] at hv
  rw [adds_ends]
  exact ⟨v, vs, hb, rfl, hv⟩

theorem reads_below {w w' : World} {v : Value} {l : List Int} (h : Reads w v (ints l)) (hb : Below w.heap.size w w') : Reads w' v (ints l) := h.same fun k _ hk => hb.block k hk
theorem reads_new (w : World) (cs : Array Value) (te : TypeId) (hn : cs.size ≤ maxLen) : Reads (w.alloc (.cells cs te (0, 0))) (.slice (some ⟨w.heap.size, 0, none⟩) cs.size cs.size) cs.toList :=
  OwnS.reads (ownS_new w cs te cs.size 1 (Nat.mul_one _).symm hn)
/-- Three rows made in a row, and their slice. -/
theorem igrid_three (w : World) (a b c : List Int) (ha : a.length ≤ 1000) (hb : b.length ≤ 1000) (hc : c.length ≤ 1000) (t t' : TypeId) :
    IGrid ((((w.alloc (.cells (ints a).toArray t (0, 0))).alloc (.cells (ints b).toArray t (0, 0))).alloc (.cells (ints c).toArray t (0, 0))).alloc (.cells #[.slice (some ⟨w.heap.size, 0, none⟩) a.length a.length, .slice (some ⟨w.heap.size + 1, 0, none⟩) b.length b.length, .slice (some ⟨w.heap.size + 1 + 1, 0, none⟩) c.length c.length] t' (0, 0)))
      (.slice (some ⟨w.heap.size + 1 + 1 + 1, 0, none⟩) 3 3) [a, b, c] := by
  have al : ∀ (w : World) (o : Obj), Below w.heap.size w (w.alloc o) := fun w o => (Below.refl _ _).alloc (Nat.le_refl _) _
  have sz : ∀ (w : World) (o : Obj), (w.alloc o).heap.size = w.heap.size + 1 := fun w o => by simp
  have nw : ∀ (w : World) (l : List Int), l.length ≤ 1000 → Reads (w.alloc (.cells (ints l).toArray t (0, 0))) (.slice (some ⟨w.heap.size, 0, none⟩) l.length l.length) (ints l) := fun w l hl => by
    have := reads_new w (ints l).toArray t (by simp [ints]; unfold maxLen; omega)
    simpa [ints] using this
  have r1 := nw w a ha
  have r2 := nw (w.alloc (.cells (ints a).toArray t (0, 0))) b hb
  have r3 := nw ((w.alloc (.cells (ints a).toArray t (0, 0))).alloc (.cells (ints b).toArray t (0, 0))) c hc
  rw [sz] at r2
  rw [sz, sz] at r3
  have r4 := reads_new (((w.alloc (.cells (ints a).toArray t (0, 0))).alloc (.cells (ints b).toArray t (0, 0))).alloc (.cells (ints c).toArray t (0, 0))) #[.slice (some ⟨w.heap.size, 0, none⟩) a.length a.length, .slice (some ⟨w.heap.size + 1, 0, none⟩) b.length b.length, .slice (some ⟨w.heap.size + 1 + 1, 0, none⟩) c.length c.length] t' (by simp; unfold maxLen; omega)
  rw [sz, sz, sz] at r4
  refine ⟨_, rfl, r4, fun k u l hu hl => ?_⟩
  match k with
  | 0 => cases hu; cases hl; exact reads_below (reads_below (reads_below r1 (al _ _)) (al _ _)) (al _ _)
  | 1 => cases hu; cases hl; exact reads_below (reads_below r2 (al _ _)) (al _ _)
  | 2 => cases hu; cases hl; exact reads_below r3 (al _ _)
  | n + 3 => cases hu

/-- The second little program, made. -/
theorem bad_made (w : World) : PHas ((((w.alloc (.cells #[.int .i64 0] 3 (0, 0))).alloc (.cells #[.int .i64 6, .int .i64 0, .int .i64 1, .int .i64 0, .int .i64 2, .int .i64 0, .int .i64 0, .int .i64 0] 55 (0, 0))).alloc (.cells #[.int .i64 1, .int .i64 1, .int .i64 0, .int .i64 0, .int .i64 10, .int .i64 1, .int .i64 0, .int .i64 0] 55 (0, 0))).alloc (.cells #[.slice (some ⟨w.heap.size + 1, 0, none⟩) 2 2, .slice (some ⟨w.heap.size + 1 + 1, 0, none⟩) 2 2] 46 (0, 0))) (.slice (some ⟨w.heap.size, 0, none⟩) 1 1) (.slice (some ⟨w.heap.size + 1 + 1 + 1, 0, none⟩) 2 2) badP := by
  have al : ∀ (w : World) (o : Obj), Below w.heap.size w (w.alloc o) := fun w o => (Below.refl _ _).alloc (Nat.le_refl _) _
  have sz : ∀ (w : World) (o : Obj), (w.alloc o).heap.size = w.heap.size + 1 := fun w o => by simp
  have r1 := ownS_new w #[.int .i64 0] 3 1 1 rfl (by decide)
  have r2 := ownS_new (w.alloc (.cells #[.int .i64 0] 3 (0, 0))) #[.int .i64 6, .int .i64 0, .int .i64 1, .int .i64 0, .int .i64 2, .int .i64 0, .int .i64 0, .int .i64 0] 55 2 4 rfl (by decide)
  have r3 := ownS_new ((w.alloc (.cells #[.int .i64 0] 3 (0, 0))).alloc (.cells #[.int .i64 6, .int .i64 0, .int .i64 1, .int .i64 0, .int .i64 2, .int .i64 0, .int .i64 0, .int .i64 0] 55 (0, 0))) #[.int .i64 1, .int .i64 1, .int .i64 0, .int .i64 0, .int .i64 10, .int .i64 1, .int .i64 0, .int .i64 0] 55 2 4 rfl (by decide)
  have r4 := ownS_new (((w.alloc (.cells #[.int .i64 0] 3 (0, 0))).alloc (.cells #[.int .i64 6, .int .i64 0, .int .i64 1, .int .i64 0, .int .i64 2, .int .i64 0, .int .i64 0, .int .i64 0] 55 (0, 0))).alloc (.cells #[.int .i64 1, .int .i64 1, .int .i64 0, .int .i64 0, .int .i64 10, .int .i64 1, .int .i64 0, .int .i64 0] 55 (0, 0))) #[.slice (some ⟨w.heap.size + 1, 0, none⟩) 2 2, .slice (some ⟨w.heap.size + 1 + 1, 0, none⟩) 2 2] 46 2 1 rfl (by decide)
  simp only [sz] at r2 r3 r4
  have k1 := OwnS.below (OwnS.below (OwnS.below r1 (al _ (.cells #[.int .i64 6, .int .i64 0, .int .i64 1, .int .i64 0, .int .i64 2, .int .i64 0, .int .i64 0, .int .i64 0] 55 (0, 0)))) (al _ (.cells #[.int .i64 1, .int .i64 1, .int .i64 0, .int .i64 0, .int .i64 10, .int .i64 1, .int .i64 0, .int .i64 0] 55 (0, 0)))) (al _ (.cells #[.slice (some ⟨w.heap.size + 1, 0, none⟩) 2 2, .slice (some ⟨w.heap.size + 1 + 1, 0, none⟩) 2 2] 46 (0, 0)))
  have k2 := OwnS.below (OwnS.below r2 (al _ (.cells #[.int .i64 1, .int .i64 1, .int .i64 0, .int .i64 0, .int .i64 10, .int .i64 1, .int .i64 0, .int .i64 0] 55 (0, 0)))) (al _ (.cells #[.slice (some ⟨w.heap.size + 1, 0, none⟩) 2 2, .slice (some ⟨w.heap.size + 1 + 1, 0, none⟩) 2 2] 46 (0, 0)))
  have k3 := OwnS.below r3 (al _ (.cells #[.slice (some ⟨w.heap.size + 1, 0, none⟩) 2 2, .slice (some ⟨w.heap.size + 1 + 1, 0, none⟩) 2 2] 46 (0, 0)))
  exact ⟨OwnS.reads k1, threads_two (OwnS.reads r4) (OwnS.lines (t := [⟨6, 0, 1, 0⟩, ⟨2, 0, 0, 0⟩]) k2) (OwnS.lines (t := [⟨1, 1, 0, 0⟩, ⟨10, 1, 0, 0⟩]) k3)⟩

set_option maxRecDepth 100000 in
set_option maxHeartbeats 4000000 in
theorem known_walk (w : World) : Calls Try.prog 7 #[] w fun e w' => e = .returned (.bool true) ∧ Below w.heap.size w w' := by
  go_enter Try.func7, Try.ntmps7
  go_wp2_with fail
  refine (adds_walk w).mono ?_
  rintro e w1 ⟨sw, st, rfl, hp1, hb1⟩
  have HP1 := Lib.hid hp1
  have HB1 := Lib.hid hb1
  clear hp1 hb1
  go_wp2_with fail
  refine (adds_en sw st w1 HP1.out).mono ?_
  rintro e w2 ⟨v, vs, hb2, rfl, hG2⟩
  have HB2 := Lib.hid (HB1.out.trans (hb2.mono HB1.out.size))
  have HG2 := Lib.hid hG2
  clear hb2 hG2 HP1
  go_wp2_with fail
  refine (adds_walk w2).mono ?_
  rintro e w3 ⟨sw, st, rfl, hp3, hb3⟩
  have HB3 := Lib.hid (HB2.out.trans (hb3.mono HB2.out.size))
  have HP3 := Lib.hid hp3
  have HG3 := Lib.hid (HG2.out.below hb3)
  clear hb3 hp3 HG2
  go_wp2_with fail
  refine (adds_ex sw st w3 HP3.out).mono ?_
  rintro e w4 ⟨u, n, hb4, rfl, hu⟩
  have HB4 := Lib.hid (HB3.out.trans (hb4.mono HB3.out.size))
  have HG4 := Lib.hid (HG3.out.below hb4)
  clear hb4 HG3 HP3
  have hone := found_one n 3 false u hu
  go_upto_region 3 with (refine wpList_store_row rfl 30 (.tmp 3) (.tmp 14) rfl w4.heap.size #[.int .i64 n, .int .i64 3, .bool false, u] rfl rfl 30 _ (heap_alloc_new _ _) info_found rfl hone ?_)
  have hb5 : Below w4.heap.size w4 ((w4.alloc (.cells #[.int .i64 0, .int .i64 0, .bool false, .slice none 0 0] 30 (0, 0))).setRow w4.heap.size #[.int .i64 n, .int .i64 3, .bool false, u]) := below_setRow ((Below.refl _ _).alloc (Nat.le_refl _) _) _ (Nat.le_refl _)
  have hx5 : ((w4.alloc (.cells #[.int .i64 0, .int .i64 0, .bool false, .slice none 0 0] 30 (0, 0))).setRow w4.heap.size #[.int .i64 n, .int .i64 3, .bool false, u]).heap[w4.heap.size]? = some (.cells #[.int .i64 n, .int .i64 3, .bool false, u] 30 (0, 0)) := heap_setRow (heap_alloc_new _ _)
  have HB5 := Lib.hid (HB4.out.trans (hb5.mono HB4.out.size))
  have HG5 := Lib.hid (HG4.out.below hb5)
  generalize (w4.alloc (.cells #[.int .i64 0, .int .i64 0, .bool false, .slice none 0 0] 30)).setRow w4.heap.size #[.int .i64 n, .int .i64 3, .bool false, u] = w5 at hx5 HB5 HG5 ⊢
  generalize w4.heap.size = F at hx5 ⊢
  have c1 : w5.cell? ⟨F, 1, none⟩ = some (.int .i64 3) := by simp [World.cell?, hx5]
  have c2 : w5.cell? ⟨F, 2, none⟩ = some (.bool false) := by simp [World.cell?, hx5]
  have hig := igrid_three w5 [1, 1, 0, 0, 0, 1, 0, 0, 0] [2, 1, 0, 0, 0, 2, 0, 0, 0] [2, 2, 0, 0, 0, 1, 0, 0, 0] (by decide) (by decide) (by decide) 3 22
  have hal : Below w5.heap.size w5 ((((w5.alloc (.cells (ints [1, 1, 0, 0, 0, 1, 0, 0, 0]).toArray 3 (0, 0))).alloc (.cells (ints [2, 1, 0, 0, 0, 2, 0, 0, 0]).toArray 3 (0, 0))).alloc (.cells (ints [2, 2, 0, 0, 0, 1, 0, 0, 0]).toArray 3 (0, 0))).alloc (.cells #[.slice (some ⟨w5.heap.size, 0, none⟩) 9 9, .slice (some ⟨w5.heap.size + 1, 0, none⟩) 9 9, .slice (some ⟨w5.heap.size + 1 + 1, 0, none⟩) 9 9] 22 (0, 0))) :=
    ((((Below.refl _ _).alloc (Nat.le_refl _) _).alloc (by simp) _).alloc (by simp; omega) _).alloc (by simp; omega) _
  have hgv := (HG5.out.below hal).igrid
  have hrw := rows_walk v (.slice (some ⟨w5.heap.size + 1 + 1 + 1, 0, none⟩) 3 3) addsR addsR _ hgv hig (by decide) (fun k => by
    match k with
    | 0 => decide
    | 1 => decide
    | 2 => decide
    | n + 3 => simp [addsR])
  rw [decide_eq_true rfl] at hrw
  have HRW := Lib.hid hrw
  have HAL := Lib.hid hal
  clear hrw hal hgv hig hx5 HB2 HB3 HB4 HG4 hb5 hone
  go_wp2_with fail
  refine HRW.out.mono ?_
  rintro e w6 ⟨rfl, hb6⟩
  have HB6 := Lib.hid ((HB5.out.trans (HAL.out.mono HB5.out.size)).trans (hb6.mono (HB5.out.trans (HAL.out.mono HB5.out.size)).size))
  clear hb6 HB5 HAL HRW HG5 c1 c2
  have hbm := bad_made w6
  have hal : Below w6.heap.size w6 ((((w6.alloc (.cells #[.int .i64 0] 3 (0, 0))).alloc (.cells #[.int .i64 6, .int .i64 0, .int .i64 1, .int .i64 0, .int .i64 2, .int .i64 0, .int .i64 0, .int .i64 0] 55 (0, 0))).alloc (.cells #[.int .i64 1, .int .i64 1, .int .i64 0, .int .i64 0, .int .i64 10, .int .i64 1, .int .i64 0, .int .i64 0] 55 (0, 0))).alloc (.cells #[.slice (some ⟨w6.heap.size + 1, 0, none⟩) 2 2, .slice (some ⟨w6.heap.size + 1 + 1, 0, none⟩) 2 2] 46 (0, 0))) :=
    ((((Below.refl _ _).alloc (Nat.le_refl _) _).alloc (by simp) _).alloc (by simp; omega) _).alloc (by simp; omega) _
  have HBM := Lib.hid hbm
  have HAL := Lib.hid hal
  clear hbm hal
  go_wp2_with fail
  refine (bad_ex _ _ _ HBM.out).mono ?_
  rintro e w7 ⟨v7, n7, m7, hb7, rfl, hv7⟩
  have HB7 := Lib.hid ((HB6.out.trans (HAL.out.mono HB6.out.size)).trans (hb7.mono (HB6.out.trans (HAL.out.mono HB6.out.size)).size))
  have hone := found_one n7 m7 true v7 (OwnS.one hv7)
  have HV7 := Lib.hid hv7
  clear hb7 hv7 HB6 HAL HBM
  go_upto_region 6 with (refine wpList_store_row rfl 30 (.tmp 5) (.tmp 51) rfl w7.heap.size #[.int .i64 n7, .int .i64 m7, .bool true, v7] rfl rfl 30 _ (heap_alloc_new _ _) info_found rfl hone ?_)
  have hb8 : Below w7.heap.size w7 ((w7.alloc (.cells #[.int .i64 0, .int .i64 0, .bool false, .slice none 0 0] 30 (0, 0))).setRow w7.heap.size #[.int .i64 n7, .int .i64 m7, .bool true, v7]) := below_setRow ((Below.refl _ _).alloc (Nat.le_refl _) _) _ (Nat.le_refl _)
  have hx8 : ((w7.alloc (.cells #[.int .i64 0, .int .i64 0, .bool false, .slice none 0 0] 30 (0, 0))).setRow w7.heap.size #[.int .i64 n7, .int .i64 m7, .bool true, v7]).heap[w7.heap.size]? = some (.cells #[.int .i64 n7, .int .i64 m7, .bool true, v7] 30 (0, 0)) := heap_setRow (heap_alloc_new _ _)
  have HB8 := Lib.hid (HB7.out.trans (hb8.mono HB7.out.size))
  have HV8 := Lib.hid (OwnS.below HV7.out hb8)
  generalize (w7.alloc (.cells #[.int .i64 0, .int .i64 0, .bool false, .slice none 0 0] 30)).setRow w7.heap.size #[.int .i64 n7, .int .i64 m7, .bool true, v7] = w8 at hx8 HB8 HV8 ⊢
  generalize w7.heap.size = G at hx8 ⊢
  have c2 : w8.cell? ⟨G, 2, none⟩ = some (.bool true) := by simp [World.cell?, hx8]
  have c3 : w8.cell? ⟨G, 3, none⟩ = some v7 := by simp [World.cell?, hx8]
  have hal : Below w8.heap.size w8 (w8.alloc (.cells #[.int .i64 0, .int .i64 0, .int .i64 1, .int .i64 1] 3 (0, 0))) := (Below.refl _ _).alloc (Nat.le_refl _) _
  have hr1 : Reads (w8.alloc (.cells #[.int .i64 0, .int .i64 0, .int .i64 1, .int .i64 1] 3 (0, 0))) v7 (ints [0, 0, 1, 1]) := OwnS.reads (OwnS.below HV8.out hal)
  have hr2 : Reads (w8.alloc (.cells #[.int .i64 0, .int .i64 0, .int .i64 1, .int .i64 1] 3 (0, 0))) (.slice (some ⟨w8.heap.size, 0, none⟩) 4 4) (ints [0, 0, 1, 1]) := reads_new w8 #[.int .i64 0, .int .i64 0, .int .i64 1, .int .i64 1] 3 (by decide)
  have hiw := ints_walk v7 (.slice (some ⟨w8.heap.size, 0, none⟩) 4 4) [0, 0, 1, 1] [0, 0, 1, 1] _ hr1 hr2 (by decide)
  rw [decide_eq_true rfl] at hiw
  have HIW := Lib.hid hiw
  have HAL := Lib.hid hal
  clear hiw hal hr1 hr2 hx8 hb8 HV7 HB7 hone
  go_wp2_with fail
  refine HIW.out.mono ?_
  rintro e w9 ⟨rfl, hb9⟩
  go_wp2
  go_ret
  exact ⟨rfl, (HB8.out.trans (HAL.out.mono HB8.out.size)).trans (hb9.mono (HB8.out.trans (HAL.out.mono HB8.out.size)).size)⟩
end Go.Proofs.Ytmpgjnindbklaaa
