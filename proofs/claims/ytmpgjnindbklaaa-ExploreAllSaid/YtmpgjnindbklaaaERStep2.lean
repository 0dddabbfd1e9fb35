import Derived.Test.YtmpgjnindbklaaaERStep
namespace Go.Proofs.Ytmpgjnindbklaaa
open Go.RowKit BA Ex

set_option maxRecDepth 100000 in
set_option maxHeartbeats 4000000 in
theorem refStep_3 (sw st sv : Value) (p : Lt) (xs : List Int) (k i : Nat) (x : Ln) (w : World) (h : PHas w sw st p) (hs : Reads w sv (ints xs)) (h8 : p.words.length ≤ 8) (hk : k < p.threads.length) (hT : p.threads.length ≤ 4)
    (hx : xs.length = p.words.length + 5 * p.threads.length + 1) (hi : i < (p.threads.getD k []).length) (hgi : g xs (p.words.length + 5 * k) = i) (hln : (p.threads.getD k []).getD i default = x) (hok : lineOK p.words.length (p.threads.getD k []).length x = true) (hop : x.op = 3) :
    Calls Try.prog 42 #[.agg #[sw, st], sv, .int .i64 k] w fun e w' => ∃ v, e = .returned v ∧ OwnS w' w.heap.size 1 v xs.length (ints (fstep xs (p.words.length + 5 * k) x)) ∧ Below w.heap.size w w' := by
  obtain ⟨aw, cw, rfl⟩ := h.words_shape
  obtain ⟨b, o, c, rfl, hb⟩ := ints_form hs (by omega)
  have hR := RChk.begin h
  have hi' : Try.prog.info? 3 = some Try.t3 := by kernel_rfl
  have HI := Lib.hid hi'
  clear hi'
  have hs1 : Reads (w.alloc (.cells #[.slice aw p.words.length cw, st] 25 (0, 0))) (.slice (some ⟨b, o, none⟩) xs.length c) (ints xs) := hs.same fun j _ hj => hR.below.block j hj
  obtain ⟨tb, t0, tc, tv, rfl, htb, hct, hL⟩ := hR.has.threads.at' hk
  have H0 := Lib.hid h
  have hx0 : 0 < xs.length := by omega
  have hx100 : xs.length ≤ 100 := by omega
  have hmT : p.words.length + 5 * k + 5 < xs.length := by omega
  have HX := Lib.hid hx
  clear h hs hx
  go_enter Try.func42, Try.ntmps42
  go_upto_region 1 with fail
  generalize hW : w.alloc (.cells #[.slice aw p.words.length cw, .slice (some ⟨tb, t0, none⟩) p.threads.length tc] 25 (0, 0)) = w1 at hR hs1 hct hL htb ⊢
  clear hW
  generalize hN : w.heap.size = N at hR hb ⊢
  have HN := Lib.hid hN
  clear hN
  have hw1 : N + 1 ≤ w1.heap.size := by have := hR.box; rw [Array.getElem?_eq_some_iff] at this; exact this.1
  have n1 : 0 + (ints xs).length ≤ maxLen := by simp [ints]; unfold maxLen; omega
  have n2 : (0 + (ints xs).length) * 8 ≤ 140737488355328 := by simp [ints]; omega
  go_upto_region 2 with (at_builtin; refine wpList_append_reads _ rfl _ _ 22 rfl (N + 1) 3 Try.t3 (.int .i64 0) 8 Try.underlying22 HI.out rfl rfl rfl rfl _ 0 [] rfl (OwnS.nil _ _ _) (.slice (some ⟨b, o, none⟩) xs.length c) (ints xs) rfl hs1 (ints_one _) n1 n2 hw1 ?_; intro v2 w2 hv2 hg2 hob2)
  obtain ⟨O, cap, hv2', hNO, hO⟩ := RowI.of (by simpa using hv2) hx0
  subst hv2'
  replace hg2 : w1.grownBy w2 none := hg2
  have hR2 := hR.grown H0.out HN.out hg2 (fun k hk => by cases hk)
  have hs2 : Reads w2 (.slice (some ⟨b, o, none⟩) xs.length c) (ints xs) := hs1.same fun j _ hj => hg2.block j hj (by simp)
  clear hR hs1 hct hL htb hv2 hg2 hob2 hw1 n1 n2
  have q0 := hR2.cell0
  have q1 := hR2.cell1
  go_wp2_with fail
  refine (refAt_walk _ _ p k w2 hR2.has h8 (by omega)).mono ?_
  rintro e w3 ⟨rfl, hb3⟩
  have hR3 := hR2.more hb3
  have hs3 : Reads w3 (.slice (some ⟨b, o, none⟩) xs.length c) (ints xs) := hs2.same fun j _ hj => hb3.block j hj
  have hO3 := hO.kept (grown_below hb3) (by simp)
  clear q0 q1 hR2 hs2 hO hb3
  generalize hm : p.words.length + 5 * k = m at hgi hmT
  have HM := Lib.hid hm
  have hmx : m < xs.length := by omega
  have hnm : p.words.length ≤ m := by omega
  clear hm
  have q1 := hR3.cell1
  obtain ⟨tb', t0', tc', tv', hv, htb, hct, hL⟩ := hR3.has.threads.at' hk
  cases hv
  obtain ⟨b2, o2, cl, hv, hb2, l0, l1, l2, l3⟩ := hL.at' hi
  subst hv
  rw [hln] at l0 l1 l2 l3
  have q2 : w3.cell? ⟨b, o + m, none⟩ = some (.int .i64 (i : Int)) := by rw [← hgi]; exact ints_at hs3 hmx
  have hbw : b < w3.heap.size := World.block_lt_of_cell? w3 _ q2
  have hNw : N < w3.heap.size := World.block_lt_of_cell? w3 _ q1
  have hOw : O < w3.heap.size := hO3.lt
  generalize htt : p.threads.getD k [] = tt at hct hL hi hln hok
  clear htt hL hln
  have HOK := Lib.hid hok
  have HR3 := Lib.hid hR3
  have HS3 := Lib.hid hs3
  have HO3 := Lib.hid hO3
  have HGI := Lib.hid hgi
  clear hok hR3 hs3 hO3 hgi
  obtain ⟨op, a, b', k'⟩ := x
  dsimp only at hop
  have HOP := Lib.hid hop
  clear hop
  go_wp2_with fail
  go_region
  go_upto_block 0 with fail
  have hT4 := (RRef.base HR3.out HS3.out HO3.out (by omega) (fun j hj => by cases hj; exact hb) ⟨op, a, b', k'⟩).drew
  generalize (w3.alloc (.cells #[.int .i64 (⟨op, a, b', k'⟩ : Ln).op, .int .i64 (⟨op, a, b', k'⟩ : Ln).a, .int .i64 (⟨op, a, b', k'⟩ : Ln).b, .int .i64 (⟨op, a, b', k'⟩ : Ln).c] 55 (0, 0))).drew = w4 at hT4 ⊢
  generalize w3.heap.size = M at hT4 ⊢
  have hr : ((m : Int) + 1) = ((m + 1 : Nat) : Int) := by omega
  rw [hr]
  clear hr
  generalize hmr : m + 1 = r
  have hmr1 : m < r := by omega
  have hrx : r + 4 < xs.length := by omega
  have HMR := Lib.hid hmr
  clear hmr
  obtain ⟨nx0, hnx⟩ : ∃ n, wrap64 ((i : Int) + 1) = n := ⟨_, rfl⟩
  rw [hnx]
  have HNX := Lib.hid hnx
  have HT4 := Lib.hid hT4
  clear hT4 hnx q1 q2 hct htb hbw hNw hOw hb2 l0 l1 l2 l3
  go_cut [11] from 37 to 208 (fun s11 wx => ∃ ys nx, s11 = .int .i64 nx ∧ RRef w wx N M O cap (.slice (some ⟨b, o, none⟩) xs.length c) xs ys ⟨op, a, b', k'⟩ ∧ ys = fout xs m ⟨op, a, b', k'⟩ ∧ nx = fnext xs m ⟨op, a, b', k'⟩)
  case first =>
    have hT4 := HT4.out
    have l1 := hT4.l1
    have l2 := hT4.l2
    have l3 := hT4.l3
    have hltM : M < w4.heap.size := World.block_lt_of_cell? w4 _ l1
    have hltO : O < w4.heap.size := hT4.out.lt
    have hsrc : ∀ j, j < xs.length → w4.cell? ⟨b, o + j, none⟩ = some (.int .i64 (g xs j)) := fun j hj => ints_at hT4.src hj
    have hout : ∀ j, j < xs.length → w4.cell? ⟨O, j, none⟩ = some (.int .i64 (g xs j)) := fun j hj => hT4.out.at' hj
    have zf : ∀ j, w4.frozen? ⟨O, j, none⟩ = false := hT4.out.free
    have hok := HOK.out
    have HSRC := Lib.hid hsrc
    have HOUT := Lib.hid hout
    have HZF := Lib.hid zf
    have hnxs : w64 (g xs m + 1) = nx0 := by rw [HGI.out]; exact HNX.out
    have HNXS := Lib.hid hnxs
    clear hT4 HOK hsrc hout zf hnxs
    have hop := HOP.out
    clear HOP
    subst hop
    have hx : reg a = true ∧ word p.words.length b' = true := by simpa [lineOK] using hok
    obtain ⟨a, rfl, ha⟩ := reg_nat hx.1
    obtain ⟨b', rfl, hb'⟩ := word_nat hx.2
    have f1 := HSRC.out b' (by omega)
    have f2 := HOUT.out (r + a) (by omega)
    have z2 := HZF.out (r + a)
    have i1 : (b' : Int) < (xs.length : Int) := by omega
    have i2 : (r : Int) + (a : Int) < (xs.length : Int) := by omega
    clear hok hx
    go_wp2
    go_region
    go_upto_region 13 with fail
    have hT5 := (HT4.out.set (i := r + a) (by omega) (g xs b')).drew
    generalize (w4.setCell ⟨O, r + a, none⟩ (.int .i64 (g xs b'))).drew = w5 at hT5 ⊢
    clear f1 f2 z2 l1 l2 l3 hltM hltO
    have l1 := hT5.l1
    have l2 := hT5.l2
    have l3 := hT5.l3
    have f1 : w5.cell? ⟨b, o + b', none⟩ = some (.int .i64 (g xs b')) := ints_at hT5.src (by omega)
    have f2 := hT5.out.at' (i := b') (by rw [List.length_set]; omega)
    have z2 := hT5.out.free b'
    have hltO := hT5.out.lt
    have HT5 := Lib.hid hT5
    clear hT5
    go_wp2_with fail
    go_region
    go_wp2
    go_meet
    exact ⟨_, _, rfl, (HT5.out.set (i := b') (by rw [List.length_set]; omega) _).drew, by simp [fout, HMR.out], by simp [fnext, HNXS.out]⟩
  case rest =>
    obtain ⟨ys, nx, rfl, hT5, hy, hn⟩ := hcut
    have hyl : ys.length = xs.length := by rw [hy, fout_len]
    have HY := Lib.hid hy
    have HNN := Lib.hid hn
    clear hy hn
    have f1 := hT5.out.at' (i := m) (by omega)
    have z1 := hT5.out.free m
    have hltO := hT5.out.lt
    have i1 : (m : Int) < (xs.length : Int) := by omega
    have HT5 := Lib.hid hT5
    clear hT5
    generalize g ys m = gym at f1
    go_wp2
    go_ret
    have hT6 := HT5.out.set (i := m) (by omega) nx
    refine ⟨_, rfl, ?_, by rw [HN.out]; exact hT6.below⟩
    have e := hT6.out.ownS (base := w.heap.size) (by rw [HN.out]; omega)
    rw [List.length_set, hyl] at e
    rw [HM.out]
    have e2 : fstep xs m ⟨op, a, b', k'⟩ = ys.set m nx := by rw [fstep, ← HY.out, ← HNN.out]
    rw [e2]
    exact e

set_option maxRecDepth 100000 in
set_option maxHeartbeats 4000000 in
theorem refStep_4 (sw st sv : Value) (p : Lt) (xs : List Int) (k i : Nat) (x : Ln) (w : World) (h : PHas w sw st p) (hs : Reads w sv (ints xs)) (h8 : p.words.length ≤ 8) (hk : k < p.threads.length) (hT : p.threads.length ≤ 4)
    (hx : xs.length = p.words.length + 5 * p.threads.length + 1) (hi : i < (p.threads.getD k []).length) (hgi : g xs (p.words.length + 5 * k) = i) (hln : (p.threads.getD k []).getD i default = x) (hok : lineOK p.words.length (p.threads.getD k []).length x = true) (hop : x.op = 4) :
    Calls Try.prog 42 #[.agg #[sw, st], sv, .int .i64 k] w fun e w' => ∃ v, e = .returned v ∧ OwnS w' w.heap.size 1 v xs.length (ints (fstep xs (p.words.length + 5 * k) x)) ∧ Below w.heap.size w w' := by
  obtain ⟨aw, cw, rfl⟩ := h.words_shape
  obtain ⟨b, o, c, rfl, hb⟩ := ints_form hs (by omega)
  have hR := RChk.begin h
  have hi' : Try.prog.info? 3 = some Try.t3 := by kernel_rfl
  have HI := Lib.hid hi'
  clear hi'
  have hs1 : Reads (w.alloc (.cells #[.slice aw p.words.length cw, st] 25 (0, 0))) (.slice (some ⟨b, o, none⟩) xs.length c) (ints xs) := hs.same fun j _ hj => hR.below.block j hj
  obtain ⟨tb, t0, tc, tv, rfl, htb, hct, hL⟩ := hR.has.threads.at' hk
  have H0 := Lib.hid h
  have hx0 : 0 < xs.length := by omega
  have hx100 : xs.length ≤ 100 := by omega
  have hmT : p.words.length + 5 * k + 5 < xs.length := by omega
  have HX := Lib.hid hx
  clear h hs hx
  go_enter Try.func42, Try.ntmps42
  go_upto_region 1 with fail
  generalize hW : w.alloc (.cells #[.slice aw p.words.length cw, .slice (some ⟨tb, t0, none⟩) p.threads.length tc] 25 (0, 0)) = w1 at hR hs1 hct hL htb ⊢
  clear hW
  generalize hN : w.heap.size = N at hR hb ⊢
  have HN := Lib.hid hN
  clear hN
  have hw1 : N + 1 ≤ w1.heap.size := by have := hR.box; rw [Array.getElem?_eq_some_iff] at this; exact this.1
  have n1 : 0 + (ints xs).length ≤ maxLen := by simp [ints]; unfold maxLen; omega
  have n2 : (0 + (ints xs).length) * 8 ≤ 140737488355328 := by simp [ints]; omega
  go_upto_region 2 with (at_builtin; refine wpList_append_reads _ rfl _ _ 22 rfl (N + 1) 3 Try.t3 (.int .i64 0) 8 Try.underlying22 HI.out rfl rfl rfl rfl _ 0 [] rfl (OwnS.nil _ _ _) (.slice (some ⟨b, o, none⟩) xs.length c) (ints xs) rfl hs1 (ints_one _) n1 n2 hw1 ?_; intro v2 w2 hv2 hg2 hob2)
  obtain ⟨O, cap, hv2', hNO, hO⟩ := RowI.of (by simpa using hv2) hx0
  subst hv2'
  replace hg2 : w1.grownBy w2 none := hg2
  have hR2 := hR.grown H0.out HN.out hg2 (fun k hk => by cases hk)
  have hs2 : Reads w2 (.slice (some ⟨b, o, none⟩) xs.length c) (ints xs) := hs1.same fun j _ hj => hg2.block j hj (by simp)
  clear hR hs1 hct hL htb hv2 hg2 hob2 hw1 n1 n2
  have q0 := hR2.cell0
  have q1 := hR2.cell1
  go_wp2_with fail
  refine (refAt_walk _ _ p k w2 hR2.has h8 (by omega)).mono ?_
  rintro e w3 ⟨rfl, hb3⟩
  have hR3 := hR2.more hb3
  have hs3 : Reads w3 (.slice (some ⟨b, o, none⟩) xs.length c) (ints xs) := hs2.same fun j _ hj => hb3.block j hj
  have hO3 := hO.kept (grown_below hb3) (by simp)
  clear q0 q1 hR2 hs2 hO hb3
  generalize hm : p.words.length + 5 * k = m at hgi hmT
  have HM := Lib.hid hm
  have hmx : m < xs.length := by omega
  have hnm : p.words.length ≤ m := by omega
  clear hm
  have q1 := hR3.cell1
  obtain ⟨tb', t0', tc', tv', hv, htb, hct, hL⟩ := hR3.has.threads.at' hk
  cases hv
  obtain ⟨b2, o2, cl, hv, hb2, l0, l1, l2, l3⟩ := hL.at' hi
  subst hv
  rw [hln] at l0 l1 l2 l3
  have q2 : w3.cell? ⟨b, o + m, none⟩ = some (.int .i64 (i : Int)) := by rw [← hgi]; exact ints_at hs3 hmx
  have hbw : b < w3.heap.size := World.block_lt_of_cell? w3 _ q2
  have hNw : N < w3.heap.size := World.block_lt_of_cell? w3 _ q1
  have hOw : O < w3.heap.size := hO3.lt
  generalize htt : p.threads.getD k [] = tt at hct hL hi hln hok
  clear htt hL hln
  have HOK := Lib.hid hok
  have HR3 := Lib.hid hR3
  have HS3 := Lib.hid hs3
  have HO3 := Lib.hid hO3
  have HGI := Lib.hid hgi
  clear hok hR3 hs3 hO3 hgi
  obtain ⟨op, a, b', k'⟩ := x
  dsimp only at hop
  have HOP := Lib.hid hop
  clear hop
  go_wp2_with fail
  go_region
  go_upto_block 0 with fail
  have hT4 := (RRef.base HR3.out HS3.out HO3.out (by omega) (fun j hj => by cases hj; exact hb) ⟨op, a, b', k'⟩).drew
  generalize (w3.alloc (.cells #[.int .i64 (⟨op, a, b', k'⟩ : Ln).op, .int .i64 (⟨op, a, b', k'⟩ : Ln).a, .int .i64 (⟨op, a, b', k'⟩ : Ln).b, .int .i64 (⟨op, a, b', k'⟩ : Ln).c] 55 (0, 0))).drew = w4 at hT4 ⊢
  generalize w3.heap.size = M at hT4 ⊢
  have hr : ((m : Int) + 1) = ((m + 1 : Nat) : Int) := by omega
  rw [hr]
  clear hr
  generalize hmr : m + 1 = r
  have hmr1 : m < r := by omega
  have hrx : r + 4 < xs.length := by omega
  have HMR := Lib.hid hmr
  clear hmr
  obtain ⟨nx0, hnx⟩ : ∃ n, wrap64 ((i : Int) + 1) = n := ⟨_, rfl⟩
  rw [hnx]
  have HNX := Lib.hid hnx
  have HT4 := Lib.hid hT4
  clear hT4 hnx q1 q2 hct htb hbw hNw hOw hb2 l0 l1 l2 l3
  go_cut [11] from 37 to 208 (fun s11 wx => ∃ ys nx, s11 = .int .i64 nx ∧ RRef w wx N M O cap (.slice (some ⟨b, o, none⟩) xs.length c) xs ys ⟨op, a, b', k'⟩ ∧ ys = fout xs m ⟨op, a, b', k'⟩ ∧ nx = fnext xs m ⟨op, a, b', k'⟩)
  case first =>
    have hT4 := HT4.out
    have l1 := hT4.l1
    have l2 := hT4.l2
    have l3 := hT4.l3
    have hltM : M < w4.heap.size := World.block_lt_of_cell? w4 _ l1
    have hltO : O < w4.heap.size := hT4.out.lt
    have hsrc : ∀ j, j < xs.length → w4.cell? ⟨b, o + j, none⟩ = some (.int .i64 (g xs j)) := fun j hj => ints_at hT4.src hj
    have hout : ∀ j, j < xs.length → w4.cell? ⟨O, j, none⟩ = some (.int .i64 (g xs j)) := fun j hj => hT4.out.at' hj
    have zf : ∀ j, w4.frozen? ⟨O, j, none⟩ = false := hT4.out.free
    have hok := HOK.out
    have HSRC := Lib.hid hsrc
    have HOUT := Lib.hid hout
    have HZF := Lib.hid zf
    have hnxs : w64 (g xs m + 1) = nx0 := by rw [HGI.out]; exact HNX.out
    have HNXS := Lib.hid hnxs
    clear hT4 HOK hsrc hout zf hnxs
    have hop := HOP.out
    clear HOP
    subst hop
    have hx : reg a = true ∧ word p.words.length b' = true := by simpa [lineOK] using hok
    obtain ⟨a, rfl, ha⟩ := reg_nat hx.1
    obtain ⟨b', rfl, hb'⟩ := word_nat hx.2
    have f1 := HSRC.out b' (by omega)
    have f2 := HOUT.out (r + a) (by omega)
    have z2 := HZF.out (r + a)
    have i1 : (b' : Int) < (xs.length : Int) := by omega
    have i2 : (r : Int) + (a : Int) < (xs.length : Int) := by omega
    clear hok hx
    go_wp2
    go_region
    go_upto_region 16 with fail
    have hT5 := (HT4.out.set (i := r + a) (by omega) (g xs b')).drew
    generalize (w4.setCell ⟨O, r + a, none⟩ (.int .i64 (g xs b'))).drew = w5 at hT5 ⊢
    clear f1 f2 z2 l1 l2 l3 hltM hltO
    have l1 := hT5.l1
    have l2 := hT5.l2
    have f1 : w5.cell? ⟨b, o + (r + a), none⟩ = some (.int .i64 (g xs (r + a))) := ints_at hT5.src (by omega)
    have f2 := hT5.out.at' (i := b') (by rw [List.length_set]; omega)
    have z2 := hT5.out.free b'
    have hltO := hT5.out.lt
    have HT5 := Lib.hid hT5
    clear hT5
    go_wp2_with fail
    go_region
    go_wp2
    go_meet
    exact ⟨_, _, rfl, (HT5.out.set (i := b') (by rw [List.length_set]; omega) _).drew, by simp [fout, HMR.out], by simp [fnext, HNXS.out]⟩
  case rest =>
    obtain ⟨ys, nx, rfl, hT5, hy, hn⟩ := hcut
    have hyl : ys.length = xs.length := by rw [hy, fout_len]
    have HY := Lib.hid hy
    have HNN := Lib.hid hn
    clear hy hn
    have f1 := hT5.out.at' (i := m) (by omega)
    have z1 := hT5.out.free m
    have hltO := hT5.out.lt
    have i1 : (m : Int) < (xs.length : Int) := by omega
    have HT5 := Lib.hid hT5
    clear hT5
    generalize g ys m = gym at f1
    go_wp2
    go_ret
    have hT6 := HT5.out.set (i := m) (by omega) nx
    refine ⟨_, rfl, ?_, by rw [HN.out]; exact hT6.below⟩
    have e := hT6.out.ownS (base := w.heap.size) (by rw [HN.out]; omega)
    rw [List.length_set, hyl] at e
    rw [HM.out]
    have e2 : fstep xs m ⟨op, a, b', k'⟩ = ys.set m nx := by rw [fstep, ← HY.out, ← HNN.out]
    rw [e2]
    exact e
end Go.Proofs.Ytmpgjnindbklaaa
