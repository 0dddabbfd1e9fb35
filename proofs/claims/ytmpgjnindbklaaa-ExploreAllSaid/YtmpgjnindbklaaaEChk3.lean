import Derived.Test.YtmpgjnindbklaaaEChk1
import Derived.Handy
import Derived.Test.YtmpgjnindbklaaaERef2
namespace Go.Proofs.Ytmpgjnindbklaaa
open Go.RowKit BA Ex

/-- What a line's fields name: registers, words, lines; whether there is such a line. -/
def namesOf (x : Ln) : List Int × List Int × List Int × Bool :=
  if x.op = 1 ∨ x.op = 3 ∨ x.op = 4 then ([x.a], [x.b], [], true)
  else if x.op = 2 then ([x.b], [x.a], [], true)
  else if x.op = 5 then ([x.b, x.c], [x.a], [], true)
  else if x.op = 6 ∨ x.op = 10 then ([x.a], [], [], true)
  else if x.op = 7 then ([x.a, x.b], [], [], true)
  else if x.op = 8 then ([x.a], [], [x.c], true)
  else if x.op = 9 then ([], [], [x.c], true)
  else ([], [], [], false)

theorem reads_new0 (W : World) : Reads W (.slice none 0 0) (ints []) := .inl ⟨rfl, none, 0, rfl, by decide, fun _ => rfl⟩
theorem reads_new1 {W : World} {b : Nat} {a : Int} (h : W.cell? ⟨b, 0, none⟩ = some (.int .i64 a)) : Reads W (.slice (some ⟨b, 0, none⟩) 1 1) (ints [a]) :=
  .inr ⟨by simp [ints], b, 0, 1, rfl, by simp [ints], by decide, fun i u hu => by
    match i, hu with
    | 0, hu => simp [ints] at hu; subst hu; exact h⟩
theorem reads_new2 {W : World} {b : Nat} {a c : Int} (h : W.cell? ⟨b, 0, none⟩ = some (.int .i64 a)) (h1 : W.cell? ⟨b, 1, none⟩ = some (.int .i64 c)) : Reads W (.slice (some ⟨b, 0, none⟩) 2 2) (ints [a, c]) :=
  .inr ⟨by simp [ints], b, 0, 2, rfl, by simp [ints], by decide, fun i u hu => by
    match i, hu with
    | 0, hu => simp [ints] at hu; subst hu; exact h
    | 1, hu => simp [ints] at hu; subst hu; exact h1⟩

theorem nclose {w W : World} {rv wv lv : Value} {ok : Bool} {x : Ln} {r ws ls : List Int} (hn : namesOf x = (r, ws, ls, ok)) (h1 : Reads W rv (ints r)) (h2 : Reads W wv (ints ws)) (h3 : Reads W lv (ints ls)) (h4 : Below w.heap.size w W) :
    ∃ rv' wv' lv', Ending.returned (.tuple #[.agg #[rv, wv, lv], .bool ok]) = Ending.returned (.tuple #[.agg #[rv', wv', lv'], .bool (namesOf x).2.2.2]) ∧
      Reads W rv' (ints (namesOf x).1) ∧ Reads W wv' (ints (namesOf x).2.1) ∧ Reads W lv' (ints (namesOf x).2.2.1) ∧ Below w.heap.size w W :=
  ⟨rv, wv, lv, by rw [hn], by rw [hn]; exact h1, by rw [hn]; exact h2, by rw [hn]; exact h3, h4⟩

set_option maxRecDepth 100000 in
set_option maxHeartbeats 4000000 in
theorem named_walk (x : Ln) (w : World) :
    Calls Try.prog 32 #[.agg #[.int .i64 x.op, .int .i64 x.a, .int .i64 x.b, .int .i64 x.c]] w fun e w' => ∃ rv wv lv, e = .returned (.tuple #[.agg #[rv, wv, lv], .bool (namesOf x).2.2.2]) ∧
      Reads w' rv (ints (namesOf x).1) ∧ Reads w' wv (ints (namesOf x).2.1) ∧ Reads w' lv (ints (namesOf x).2.2.1) ∧ Below w.heap.size w w' := by
  obtain ⟨op, a, b, c⟩ := x
  go_enter Try.func32, Try.ntmps32
  go_wp2
  all_goals go_returns
  all_goals first
    | (refine nclose (r := [a]) (ws := [b]) (ls := []) ?_ ?_ ?_ ?_ ?_; focus (simp_all [namesOf]; done))
    | (refine nclose (r := [b]) (ws := [a]) (ls := []) ?_ ?_ ?_ ?_ ?_; focus (simp_all [namesOf]; done))
    | (refine nclose (r := [b, c]) (ws := [a]) (ls := []) ?_ ?_ ?_ ?_ ?_; focus (simp_all [namesOf]; done))
    | (refine nclose (r := [a]) (ws := []) (ls := []) ?_ ?_ ?_ ?_ ?_; focus (simp_all [namesOf]; done))
    | (refine nclose (r := [a, b]) (ws := []) (ls := []) ?_ ?_ ?_ ?_ ?_; focus (simp_all [namesOf]; done))
    | (refine nclose (r := [a]) (ws := []) (ls := [c]) ?_ ?_ ?_ ?_ ?_; focus (simp_all [namesOf]; done))
    | (refine nclose (r := []) (ws := []) (ls := [c]) ?_ ?_ ?_ ?_ ?_; focus (simp_all [namesOf]; done))
    | (refine nclose (r := []) (ws := []) (ls := []) ?_ ?_ ?_ ?_ ?_; focus (simp_all [namesOf]; done))
  all_goals first
    | exact reads_new0 _
    | (refine reads_new1 ?_; simp [go_sem]; done)
    | (refine reads_new2 ?_ ?_ <;> (simp [go_sem]; done))
    | ((repeat (refine Below.alloc ?_ (by simp <;> omega) _)); exact Below.refl _ _)
end Go.Proofs.Ytmpgjnindbklaaa
namespace Go.Proofs.Ytmpgjnindbklaaa
open Go.RowKit BA Ex

def inb (m : Int) (l : List Int) : Bool := l.all fun n => decide (0 ≤ n) && decide (n < m)

theorem lineOK_names (n lines : Nat) (x : Ln) : lineOK n lines x = ((namesOf x).2.2.2 && inb 4 (namesOf x).1 && inb n (namesOf x).2.1 && inb ((lines : Int) + 1) (namesOf x).2.2.1) := by
  have hp : ∀ v : Int, (decide (0 ≤ v) && decide (v < (lines : Int) + 1)) = place lines v := by
    intro v
    unfold place
    congr 1
    exact decide_eq_decide.2 (by omega)
  unfold lineOK namesOf
  split
  · simp [inb, reg, word]
  split
  · simp [inb, reg, word, Bool.and_comm]
  split
  · simp only [inb, reg, word, List.all_cons, List.all_nil, Bool.and_true, Bool.true_and]
    generalize decide (0 ≤ x.a) = q1, decide (x.a < (n : Int)) = q2, decide (0 ≤ x.b) = q3, decide (x.b < 4) = q4, decide (0 ≤ x.c) = q5, decide (x.c < 4) = q6
    revert q1 q2 q3 q4 q5 q6
    decide
  split
  · simp [inb, reg]
  split
  · simp [inb, reg]
  split
  · simp [inb, reg, hp]
  split
  · simp [inb, hp]
  · simp [inb]

theorem names_short (x : Ln) : (namesOf x).1.length ≤ 1000 ∧ (namesOf x).2.1.length ≤ 1000 ∧ (namesOf x).2.2.1.length ≤ 1000 := by
  unfold namesOf
  repeat' split
  all_goals simp

/-- What is at hand while a line is looked at. -/
structure RLine (w wr : World) (N g : Nat) (sw st tv rv wv lv : Value) (p : Lt) (tt : List Ln) (x : Ln) : Prop where
  chk : RChk w wr N sw st p
  nm : wr.heap[g]? = some (.cells #[rv, wv, lv] 75 (0, 0))
  r : Reads wr rv (ints (namesOf x).1)
  ws : Reads wr wv (ints (namesOf x).2.1)
  ls : Reads wr lv (ints (namesOf x).2.2.1)
  tl : Lines wr tv tt

theorem RLine.more {w wr w' : World} {N g : Nat} {sw st tv rv wv lv : Value} {p : Lt} {tt : List Ln} {x : Ln} (h : RLine w wr N g sw st tv rv wv lv p tt x) (hb : Below wr.heap.size wr w') : RLine w w' N g sw st tv rv wv lv p tt x := by
  have hg : g < wr.heap.size := by
    have := h.nm
    rw [Array.getElem?_eq_some_iff] at this
    exact this.1
  exact ⟨h.chk.more hb, (hb.block g hg).trans h.nm, h.r.same fun k _ hk => hb.block k hk, h.ws.same fun k _ hk => hb.block k hk, h.ls.same fun k _ hk => hb.block k hk, h.tl.same fun k hk => hb.block k hk⟩
theorem RLine.n0 {w wr : World} {N g : Nat} {sw st tv rv wv lv : Value} {p : Lt} {tt : List Ln} {x : Ln} (h : RLine w wr N g sw st tv rv wv lv p tt x) : wr.cell? ⟨g, 0, none⟩ = some rv := by simp [World.cell?, h.nm]
theorem RLine.n1 {w wr : World} {N g : Nat} {sw st tv rv wv lv : Value} {p : Lt} {tt : List Ln} {x : Ln} (h : RLine w wr N g sw st tv rv wv lv p tt x) : wr.cell? ⟨g, 1, none⟩ = some wv := by simp [World.cell?, h.nm]
theorem RLine.n2 {w wr : World} {N g : Nat} {sw st tv rv wv lv : Value} {p : Lt} {tt : List Ln} {x : Ln} (h : RLine w wr N g sw st tv rv wv lv p tt x) : wr.cell? ⟨g, 2, none⟩ = some lv := by simp [World.cell?, h.nm]
theorem RLine.begin {w wr : World} {N : Nat} {sw st tv rv wv lv : Value} {p : Lt} {tt : List Ln} {x : Ln} (hc : RChk w wr N sw st p) (hr : Reads wr rv (ints (namesOf x).1)) (hw : Reads wr wv (ints (namesOf x).2.1)) (hl : Reads wr lv (ints (namesOf x).2.2.1)) (ht : Lines wr tv tt) :
    RLine w (wr.alloc (.cells #[rv, wv, lv] 75 (0, 0))) N wr.heap.size sw st tv rv wv lv p tt x := by
  have hb : Below wr.heap.size wr (wr.alloc (.cells #[rv, wv, lv] 75 (0, 0))) := (Below.refl _ _).alloc (Nat.le_refl _) _
  exact ⟨hc.more hb, heap_alloc_new _ _, hr.same fun k _ hk => hb.block k hk, hw.same fun k _ hk => hb.block k hk, hl.same fun k _ hk => hb.block k hk, ht.same fun k hk => hb.block k hk⟩

theorem within_inb (l : List Int) (v : Value) (m : Int) (w : World) (h : Reads w v (ints l)) (hl : l.length ≤ 1000) :
    Calls Try.prog 33 #[v, .int .i64 m] w fun e w' => e = .returned (.bool (inb m l)) ∧ Below w.heap.size w w' := within_walk l v m w h hl

/-- The error of a little program that can't be. -/
def chkE (p : Lt) : Int := if check p then 0 else 270

set_option maxRecDepth 100000 in
set_option maxHeartbeats 4000000 in
theorem check_walk (sw st : Value) (p : Lt) (w : World) (h : PHas w sw st p) :
    Calls Try.prog 13 #[.agg #[sw, st]] w fun e w' => e = .returned (.int .i64 (chkE p)) ∧ Below w.heap.size w w' := by
  obtain ⟨aw, cw, rfl⟩ := h.words_shape
  obtain ⟨at0, ct, rfl⟩ := h.threads.shape
  have H := Lib.hid h
  clear h
  go_enter Try.func13, Try.ntmps13
  go_wp2_with fail
  all_goals (try (go_ret; refine ⟨congrArg (fun b => Ending.returned (.int .i64 b)) ?_, (Below.refl _ _).alloc (Nat.le_refl _) _⟩; symm; unfold chkE; rw [if_neg]; rw [check_iff]; rintro ⟨⟨h1, h2, h3, h4⟩, _⟩; simp_all; done))
  all_goals (try (go_ret; refine ⟨congrArg (fun b => Ending.returned (.int .i64 b)) ?_, (Below.refl _ _).alloc (Nat.le_refl _) _⟩; symm; unfold chkE; rw [if_neg]; rw [check_iff]; rintro ⟨⟨h1, h2, h3, h4⟩, _⟩; simp_all; omega))
  rename_i h1 h2 h3 h4 K0 hK0
  have HS : Hid (p.words.length ≠ 0 ∧ p.words.length ≤ 8 ∧ p.threads.length ≠ 0 ∧ p.threads.length ≤ 4) := Lib.hid (by
    refine ⟨?_, by omega, ?_, by omega⟩ <;> simp_all)
  clear h1 h2 h3 h4
  have hR := RChk.begin H.out
  clear H
  generalize hW : w.alloc (.cells #[Value.slice aw p.words.length cw, Value.slice at0 p.threads.length ct] 25 (0, 0)) = w0 at hR ⊢
  clear hW
  generalize hN : w.heap.size = N at hR ⊢
  have HN := Lib.hid hN
  clear hN
  go_loopw [34] (fun kv wr => ∃ k : Nat, k ≤ p.threads.length ∧ kv = .int .i64 k ∧ RChk w wr N (.slice aw p.words.length cw) (.slice at0 p.threads.length ct) p ∧ threadsTo p k) (fun kv _ => p.threads.length - (intOf kv).toNat)
  case atStart => exact ⟨0, by omega, rfl, hR, fun j hj => by omega⟩
  case round =>
    clear hR
    obtain ⟨k, hk, rfl, hR, hT⟩ := hrel
    have hb4 : p.threads.length ≤ 4 := HS.out.2.2.2
    have hb8 : p.words.length ≤ 8 := HS.out.2.1
    by_cases hlt : k < p.threads.length
    · obtain ⟨b, o, c, tv, hv, hbl, hct, hL⟩ := hR.has.threads.at' hlt
      cases hv
      obtain ⟨al, cl, rfl⟩ := hL.shape
      generalize htt : p.threads.getD k [] = tt at hL hct
      have HTT := Lib.hid htt
      clear htt
      by_cases h40 : tt.length ≤ 40
      · go_wp2
        clear hct
        generalize hW : wr = w1 at hR hL
        have HL := Lib.hid hL
        clear hL hW
        go_loopw [43] (fun iv wx => ∃ i : Nat, i ≤ tt.length ∧ iv = .int .i64 i ∧ RChk w wx N (.slice aw p.words.length cw) (.slice (some ⟨b, o, none⟩) p.threads.length ct) p ∧ Lines wx (.slice al tt.length cl) tt ∧ linesTo p tt i) (fun iv _ => tt.length - (intOf iv).toNat)
        case atStart => exact ⟨0, by omega, rfl, hR, HL.out, fun j hj => by omega⟩
        case round =>
          clear hR HL
          obtain ⟨i, hi, rfl, hR, hL, hI⟩ := hrel
          by_cases hil : i < tt.length
          · obtain ⟨b2, o2, c2, hv, hb2, q0, q1, q2, q3⟩ := hL.at' hil
            cases hv
            generalize hx : tt.getD i default = x at q0 q1 q2 q3
            have HX := Lib.hid hx
            clear hx
            go_wp2_with fail
            have hB1 : Below wr.heap.size wr (wr.alloc (.cells #[.int .i64 x.op, .int .i64 x.a, .int .i64 x.b, .int .i64 x.c] 55 (0, 0))) := (Below.refl _ _).alloc (Nat.le_refl _) _
            refine (named_walk x _).mono ?_
            rintro e wn ⟨rv, wv, lv, rfl, hr, hw, hl, hbn⟩
            have hQ := RLine.begin ((hR.more hB1).more hbn) hr hw hl ((hL.same (fun j hj => hB1.block j hj)).same (fun j hj => hbn.block j hj))
            clear hR hL q0 q1 q2 q3 hB1 hr hw hl hbn
            obtain ⟨s1, s2, s3⟩ := names_short x
            have HLN := Lib.hid (lineOK_names p.words.length tt.length x)
            obtain ⟨ar, cr, rfl⟩ := ints_shape hQ.r
            obtain ⟨aq, cq, rfl⟩ := ints_shape hQ.ws
            obtain ⟨al', cl', rfl⟩ := ints_shape hQ.ls
            cases hok : (namesOf x).2.2.2 with
            | false =>
              go_wp2
              go_ret
              refine ⟨congrArg (fun b => Ending.returned (.int .i64 b)) ?_, by rw [HN.out]; exact hQ.chk.below⟩
              have h1 := HTT.out
              subst h1
              have h2 := HX.out
              subst h2
              have hno := HLN.out
              rw [hok] at hno
              unfold chkE
              rw [check_line hlt hil (by simpa using hno)]
              rfl
            | true =>
              go_wp2_with fail
              generalize wn.alloc (.cells #[Value.slice ar (namesOf x).1.length cr, Value.slice aq (namesOf x).2.1.length cq, Value.slice al' (namesOf x).2.2.1.length cl'] 75) = w2 at hQ ⊢
              generalize wn.heap.size = gN at hQ ⊢
              refine (within_inb (namesOf x).1 _ 4 _ hQ.r s1).mono ?_
              rintro e wa ⟨rfl, hba⟩
              have hQa := hQ.more hba
              clear hQ hba
              have hn1 := hQa.n1
              have hn2 := hQa.n2
              have hc0 := hQa.chk.cell0
              cases hi1 : inb 4 (namesOf x).1 with
              | false =>
                go_wp2
                go_ret
                refine ⟨congrArg (fun b => Ending.returned (.int .i64 b)) ?_, by rw [HN.out]; exact hQa.chk.below⟩
                have h1 := HTT.out
                subst h1
                have h2 := HX.out
                subst h2
                have hno := HLN.out
                rw [hok, hi1] at hno
                unfold chkE
                rw [check_line hlt hil (by simpa using hno)]
                rfl
              | true =>
                go_wp2_with fail
                clear hn1 hn2 hc0
                refine (within_inb (namesOf x).2.1 _ p.words.length _ hQa.ws s2).mono ?_
                rintro e wb ⟨rfl, hbb⟩
                have hQb := hQa.more hbb
                clear hQa hbb
                have hn2 := hQb.n2
                cases hi2 : inb p.words.length (namesOf x).2.1 with
                | false =>
                  go_wp2
                  go_ret
                  refine ⟨congrArg (fun b => Ending.returned (.int .i64 b)) ?_, by rw [HN.out]; exact hQb.chk.below⟩
                  have h1 := HTT.out
                  subst h1
                  have h2 := HX.out
                  subst h2
                  have hno := HLN.out
                  rw [hok, hi1, hi2] at hno
                  unfold chkE
                  rw [check_line hlt hil (by simpa using hno)]
                  rfl
                | true =>
                  go_wp2_with fail
                  clear hn2
                  refine (within_inb (namesOf x).2.2.1 _ ((tt.length : Int) + 1) _ hQb.ls s3).mono ?_
                  rintro e wc ⟨rfl, hbc⟩
                  have hQc := hQb.more hbc
                  clear hQb hbc
                  cases hi3 : inb ((tt.length : Int) + 1) (namesOf x).2.2.1 with
                  | false =>
                    go_wp2
                    go_ret
                    refine ⟨congrArg (fun b => Ending.returned (.int .i64 b)) ?_, by rw [HN.out]; exact hQc.chk.below⟩
                    have h1 := HTT.out
                    subst h1
                    have h2 := HX.out
                    subst h2
                    have hno := HLN.out
                    rw [hok, hi1, hi2, hi3] at hno
                    unfold chkE
                    rw [check_line hlt hil (by simpa using hno)]
                    rfl
                  | true =>
                    go_wp2
                    go_roundw
                    case rel =>
                      refine ⟨i + 1, by omega, by go_num, hQc.chk, hQc.tl, fun j hj => ?_⟩
                      by_cases hji : j = i
                      · subst hji; rw [HX.out, HLN.out, hok, hi1, hi2, hi3]; rfl
                      · exact hI j (by omega)
                    case measure => simp [intOf]; omega
          · obtain rfl : i = tt.length := by omega
            go_wp2
            go_roundw
            case rel =>
              refine ⟨k + 1, by omega, by go_num, hR, fun j hj => ?_⟩
              by_cases hjk : j = k
              · subst hjk; rw [HTT.out]; exact ⟨h40, hI⟩
              · exact hT j (by omega)
            case measure => simp [intOf]; omega
      · go_wp2
        go_ret
        refine ⟨congrArg (fun b => Ending.returned (.int .i64 b)) ?_, by rw [HN.out]; exact hR.below⟩
        have h1 := HTT.out
        subst h1
        unfold chkE
        rw [check_long hlt (by omega)]
        rfl
    · obtain rfl : k = p.threads.length := by omega
      go_wp2
      go_ret
      refine ⟨congrArg (fun b => Ending.returned (.int .i64 b)) ?_, by rw [HN.out]; exact hR.below⟩
      unfold chkE
      rw [(check_iff p).2 ⟨HS.out, hT⟩]
      rfl
end Go.Proofs.Ytmpgjnindbklaaa
