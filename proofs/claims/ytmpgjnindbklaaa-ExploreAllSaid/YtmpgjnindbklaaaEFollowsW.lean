import Derived.Test.YtmpgjnindbklaaaEKnown
import Derived.Test.YtmpgjnindbklaaaERFollow
import Derived.Test.YtmpgjnindbklaaaESameP
import Derived.Test.YtmpgjnindbklaaaELittle
namespace Go.Proofs.Ytmpgjnindbklaaa
open Go.RowKit BA Ex

theorem below_grown {w w' : World} (h : w.grownBy w' none) : Below w.heap.size w w' := ⟨h.os, h.tape, h.output, h.size, fun k hk => h.block k hk (by simp)⟩
theorem IGrid.below {w w' : World} {v : Value} {ls : List (List Int)} (h : IGrid w v ls) (hb : Below w.heap.size w w') : IGrid w' v ls :=
  let ⟨vs, h1, h2, h3⟩ := h
  ⟨vs, h1, h2.same fun k _ hk => hb.block k hk, fun k u l hu hl => reads_below (h3 k u l hu hl) hb⟩
theorem pair_one {a b : Value} (ha : a.oneCell' = true) (hb : b.oneCell' = true) : (#[a, b] : Array Value).all (·.oneCell') = true := by
  rw [Array.all_eq_true_iff_forall_mem]
  intro x hx
  simp only [List.mem_toArray, List.mem_cons, List.not_mem_nil, or_false] at hx
  rcases hx with rfl | rfl
  · exact ha
  · exact hb
theorem full_len (p : Lt) (s : St) (h8 : p.words.length ≤ 8) (h4 : p.threads.length ≤ 4) : (full p s).length ≤ 28 := by
  unfold full
  rw [List.length_append]
  have h1 : (s.c.take p.words.length).length ≤ 8 := by rw [List.length_take]; omega
  have h2 : ∀ n, ((List.range n).flatMap fun k => g s.c (8 + k) :: (s.c.drop (12 + 4 * k)).take 4).length ≤ 5 * n := by
    intro n
    induction n with
    | zero => simp
    | succ n ih =>
      rw [List.range_succ, List.flatMap_append, List.length_append]
      have : ((s.c.drop (12 + 4 * n)).take 4).length ≤ 4 := by rw [List.length_take]; omega
      simp only [List.flatMap_cons, List.flatMap_nil, List.append_nil, List.length_cons]
      omega
  have h3 := h2 p.threads.length
  omega
theorem turns_rows (p : Lt) (h8 : p.words.length ≤ 8) (h4 : p.threads.length ≤ 4) (l : List Int) : ∀ x ∈ (turns p l).2, x.length ≤ 28 := by
  suffices h : ∀ (l : List Int) (y : St × List (List Int)), (∀ x ∈ y.2, x.length ≤ 28) → ∀ x ∈ (l.foldl (turn p) y).2, x.length ≤ 28 from h l _ (by simp)
  intro l
  induction l with
  | nil => exact fun y hy => hy
  | cons k l ih =>
    intro y hy
    refine ih _ fun x hx => ?_
    unfold turn at hx
    cases hs : stepI p y.1 k with
    | none => rw [hs] at hx; exact hy x hx
    | some s =>
      rw [hs] at hx
      rcases List.mem_append.1 hx with h | h
      · exact hy x h
      · simp only [List.mem_singleton] at h
        subst h
        exact full_len p s h8 h4
theorem followF_rows (p : Lt) (l : List Int) : (followF p l).1.length ≤ 1000000 ∧ ∀ k, ((followF p l).1.getD k []).length ≤ 1000000 := by
  unfold followF
  split
  · rename_i h
    obtain ⟨⟨_, h8, _, h4⟩, _⟩ := check_facts h.1
    refine ⟨by have := turns_short p l; dsimp only; omega, fun k => ?_⟩
    dsimp only
    by_cases hk : k < (turns p l).2.length
    · have e : (turns p l).2.getD k [] = (turns p l).2[k] := by simp [List.getD_eq_getElem?_getD, hk]
      rw [e]
      have := turns_rows p h8 h4 l _ (List.getElem_mem hk)
      omega
    · have e : (turns p l).2.getD k [] = [] := by simp [List.getD_eq_getElem?_getD, Nat.le_of_not_lt hk]
      rw [e]; simp
  · exact ⟨by simp, fun k => by simp⟩

set_option maxRecDepth 100000 in
set_option maxHeartbeats 4000000 in
theorem follows_walk (sw st tv : Value) (p : Lt) (l : List Int) (w : World) (h : PHas w sw st p) (hw : p.words.length ≤ 281474976710656) (ht : p.threads.length ≤ 281474976710656) (htt : ∀ k, (p.threads.getD k []).length ≤ 281474976710656) (hr : Reads w tv (ints l)) :
    Calls Try.prog 5 #[.agg #[sw, st], tv] w fun e w' => e = .returned (.bool true) ∧ Below w.heap.size w w' := by
  have hR := RChk.begin h
  have hi : Try.prog.info? 3 = some Try.t3 := by kernel_rfl
  have HI := Lib.hid hi
  clear hi h
  obtain ⟨ta, tc, rfl⟩ := ints_shape hr
  have hb0 : Below w.heap.size w (w.alloc (.cells #[sw, st] 25 (0, 0))) := (Below.refl _ _).alloc (Nat.le_refl _) _
  have hr1 := reads_below hr hb0
  clear hb0 hr
  go_enter Try.func5, Try.ntmps5
  go_upto_region 1 with fail
  generalize hW : w.alloc (.cells #[sw, st] 25 (0, 0)) = w1 at hR hr1 ⊢
  clear hW
  generalize hN : w.heap.size = N at hR ⊢
  have HN := Lib.hid hN
  clear hN
  go_wp2_with fail
  refine (known_walk w1).mono ?_
  rintro e w2 ⟨rfl, hb2⟩
  have hR2 := hR.more hb2
  have hr2 := reads_below hr1 hb2
  have q0 := hR2.cell0
  have q1 := hR2.cell1
  clear hR hr1 hb2
  go_wp2_with fail
  refine (small_walk _ _ p w2 hR2.has hw ht htt).mono ?_
  rintro e w3 ⟨rfl, hb3⟩
  have hR3 := hR2.more hb3
  have hr3 := reads_below hr2 hb3
  clear hR2 hr2 hb3 q0 q1
  cases hs : smallB p with
  | false =>
    have HR3 := Lib.hid hR3
    have HR := Lib.hid hr3
    clear hR3 hr3 hs
    go_wp2
    go_ret
    exact ⟨rfl, by rw [HN.out]; exact HR3.out.below⟩
  | true =>
    have q0 := hR3.cell0
    have q1 := hR3.cell1
    have HS := Lib.hid hs
    have HR3 := Lib.hid hR3
    have HR := Lib.hid hr3
    clear hR3 hr3 hs
    by_cases hl : l.length ≤ 30000
    · have e1 : decide ((30000 : Int) < (l.length : Int)) = false := decide_eq_false (by omega)
      go_wp2_with fail
      refine (copied_walk _ _ p w3 HR3.out.has HS.out).mono ?_
      rintro e w4 ⟨wv, qv, vs, rfl, hwv, hcp, hb4⟩
      have HR4 := Lib.hid (HR3.out.more hb4)
      have HRR := Lib.hid (reads_below HR.out hb4)
      have hone := pair_one (OwnS.one hwv) (OwnS.one hcp.own)
      have HWV := Lib.hid hwv
      have HCP := Lib.hid hcp
      have n1 : 0 + (ints l).length ≤ maxLen := by simp only [ints, List.length_map]; unfold maxLen; omega
      have n2 : (0 + (ints l).length) * 8 ≤ 140737488355328 := by simp only [ints, List.length_map]; omega
      have N1 := Lib.hid n1
      have N2 := Lib.hid n2
      clear hb4 hwv hcp n1 n2 HR3 HR q0 q1
      go_upto_region 6 with (first
        | (at_builtin; refine wpList_append_reads _ rfl _ (.tmp 25) 22 rfl w4.heap.size 3 Try.t3 (.int .i64 0) 8 Try.underlying22 HI.out rfl rfl rfl rfl (.slice none 0 0) 0 [] rfl (OwnS.nil _ _ _) (.slice ta l.length tc) (ints l) rfl HRR.out (ints_one _) N1.out N2.out (Nat.le_refl _) ?_; intro v5 w5 hv5 hg5 hob5; obtain ⟨oa, oc, hv5e, hv5o⟩ := made_shape (m := l.length) hv5 rfl; subst hv5e; have HV5 := Lib.hid hv5o; have HG5 := Lib.hid (below_grown hg5); clear hv5 hg5 hob5 hv5o)
        | refine wpList_store_row rfl 25 (.tmp 5) (.tmp 24) rfl w5.heap.size #[wv, qv] rfl rfl 25 _ (heap_alloc_new _ _) info_little rfl hone ?_)
      have hb6 : Below w5.heap.size w5 ((w5.alloc (.cells #[.slice none 0 0, .slice none 0 0] 25 (0, 0))).setRow w5.heap.size #[wv, qv]) := below_setRow ((Below.refl _ _).alloc (Nat.le_refl _) _) _ (Nat.le_refl _)
      have hx6 : ((w5.alloc (.cells #[.slice none 0 0, .slice none 0 0] 25 (0, 0))).setRow w5.heap.size #[wv, qv]).heap[w5.heap.size]? = some (.cells #[wv, qv] 25 (0, 0)) := heap_setRow (heap_alloc_new _ _)
      have hR6 := (HR4.out.more HG5.out).more hb6
      have hr6 := reads_below (reads_below HRR.out HG5.out) hb6
      have ho6 := OwnS.below HV5.out hb6
      have hp6 : PHas ((w5.alloc (.cells #[.slice none 0 0, .slice none 0 0] 25 (0, 0))).setRow w5.heap.size #[wv, qv]) wv qv p := (PHas.below ⟨OwnS.reads HWV.out, HCP.out.threads⟩ HG5.out).below hb6
      generalize (w5.alloc (.cells #[.slice none 0 0, .slice none 0 0] 25)).setRow w5.heap.size #[wv, qv] = w6 at hx6 hR6 hr6 ho6 hp6 ⊢
      generalize w5.heap.size = L at hx6 ⊢
      have ho6 := OwnS.reads ho6
      clear hb6 HG5 HV5 HR4 HRR HWV HCP hone N1 N2
      have q0 := hR6.cell0
      have q1 := hR6.cell1
      have HR6 := Lib.hid hR6
      have HRR := Lib.hid hr6
      have HO := Lib.hid ho6
      have HP := Lib.hid hp6
      have HX := Lib.hid hx6
      clear hR6 hr6 ho6 hp6 hx6
      go_wp2_with fail
      refine (refFollow_walk _ _ _ p l w6 HR6.out.has HRR.out (by omega)).mono ?_
      rintro e w7 ⟨v7, vs7, rfl, hG7, hb7⟩
      have hL : L < w6.heap.size := by have := HX.out; rw [Array.getElem?_eq_some_iff] at this; exact this.1
      have hx7 := (hb7.block L hL).trans HX.out
      have hL7 : L < w7.heap.size := Nat.lt_of_lt_of_le hL hb7.size
      have HR7 := Lib.hid (HR6.out.more hb7)
      have HRR7 := Lib.hid (reads_below HRR.out hb7)
      have HO7 := Lib.hid (reads_below HO.out hb7)
      have HP7 := Lib.hid (HP.out.below hb7)
      have HG7 := Lib.hid hG7.igrid
      have c0 : w7.cell? ⟨L, 0, none⟩ = some wv := by simp [World.cell?, hx7]
      have c1 : w7.cell? ⟨L, 1, none⟩ = some qv := by simp [World.cell?, hx7]
      have HX7 := Lib.hid hx7
      clear hb7 hG7 hx7 HR6 HRR HO HP HX q0 q1
      go_wp2_with fail
      refine (follow_walk _ _ _ p l w7 HP7.out HO7.out (by omega)).mono ?_
      rintro e w8 ⟨v8, vs8, rfl, hG8, hb8⟩
      have hx8 := (hb8.block L hL7).trans HX7.out
      have HR8 := Lib.hid (HR7.out.more hb8)
      have HRR8 := Lib.hid (reads_below HRR7.out hb8)
      have HO8 := Lib.hid (reads_below HO7.out hb8)
      have HP8 := Lib.hid (HP7.out.below hb8)
      have HG78 := Lib.hid (HG7.out.below hb8)
      have HG8 := Lib.hid hG8.igrid
      have HL8 := Lib.hid (Nat.lt_of_lt_of_le hL7 hb8.size)
      have HX8 := Lib.hid hx8
      obtain ⟨f1, f2⟩ := followF_rows p l
      clear hb8 hG8 hx8 HR7 HRR7 HO7 HP7 HG7 HX7 c0 c1
      generalize followF p l = F at HG8 HG78 f1 f2
      obtain ⟨rows, bd, er⟩ := F
      have hrw := rows_walk v8 v7 rows rows w8 HG8.out HG78.out f1 f2
      rw [decide_eq_true rfl] at hrw
      have HRW := Lib.hid hrw
      clear hrw f1 f2
      go_wp2_with fail
      refine HRW.out.mono ?_
      rintro e w9 ⟨rfl, hb9⟩
      have hx9 := (hb9.block L HL8.out).trans HX8.out
      have HR9 := Lib.hid (HR8.out.more hb9)
      have HRR9 := Lib.hid (reads_below HRR8.out hb9)
      have HO9 := Lib.hid (reads_below HO8.out hb9)
      have HP9 := Lib.hid (HP8.out.below hb9)
      have c0 : w9.cell? ⟨L, 0, none⟩ = some wv := by simp [World.cell?, hx9]
      have c1 : w9.cell? ⟨L, 1, none⟩ = some qv := by simp [World.cell?, hx9]
      have q0 := HR9.out.cell0
      have q1 := HR9.out.cell1
      clear hb9 hx9 HR8 HRR8 HO8 HP8 HX8 HL8 HRW HG8 HG78
      go_wp2_with fail
      refine (same_walk _ _ _ _ p w9 HP9.out HR9.out.has HS.out).mono ?_
      rintro e w10 ⟨rfl, hb10⟩
      have HR10 := Lib.hid (HR9.out.more hb10)
      have hiw := ints_walk (.slice oa l.length oc) (.slice ta l.length tc) l l w10 (reads_below HO9.out hb10) (reads_below HRR9.out hb10) (by omega)
      rw [decide_eq_true rfl] at hiw
      have HIW := Lib.hid hiw
      clear hiw hb10 HR9 HRR9 HO9 HP9 c0 c1 q0 q1
      go_wp2_with fail
      refine HIW.out.mono ?_
      rintro e w11 ⟨rfl, hb11⟩
      have HR11 := Lib.hid (HR10.out.more hb11)
      clear hb11 HR10 HIW
      go_wp2
      go_ret
      exact ⟨rfl, by rw [HN.out]; exact HR11.out.below⟩
    · have e1 : decide ((30000 : Int) < (l.length : Int)) = true := decide_eq_true (by omega)
      go_wp2
      go_ret
      exact ⟨rfl, by rw [HN.out]; exact HR3.out.below⟩
end Go.Proofs.Ytmpgjnindbklaaa
namespace Go.Proofs.Ytmpgjnindbklaaa
open Go.RowKit BA Ex
/-- As the row wants it. -/
theorem follows_row (sw st : Value) (p : Lt) (v : Value) (l : List Int) (w : World) (h : PHas w sw st p) (_hin : PIn p) (hw : p.words.length ≤ 281474976710656) (ht : p.threads.length ≤ 281474976710656) (htt : ∀ k, (p.threads.getD k []).length ≤ 281474976710656) (hr : Reads w v (l.map (Value.int .i64))) (_hl : l.length * 8 ≤ reachBytes) :
    Calls Try.prog 5 #[.agg #[sw, st], v] w fun e w' => e = .returned (.bool true) ∧ Below w.heap.size w w' := follows_walk sw st v p l w h hw ht htt hr
end Go.Proofs.Ytmpgjnindbklaaa
