import Derived.Test.YtmpgjnindbklaaaEChk1
import Derived.Handy
namespace Go.Proofs.Ytmpgjnindbklaaa
open Go.RowKit BA Ex

/-- What a line's fields name: registers, words, lines; whether there is such a line. -/
def namesOf (x : Ln) : List Int × List Int × List Int × Bool :=
  if x.op = 1 ∨ x.op = 3 ∨ x.op = 4 then ([x.a], [x.b], [], true)
  else if x.op = 2 then ([x.b], [x.a], [], true)
  else if x.op = 5 then ([x.b, x.c], [x.a], [], true)
  else if x.op = 6 ∨ x.op = 10 then ([x.a], [], [], true)
  else if x.op = 7 then ([x.a, x.b], [], [], true)
  else if x.op = 8 then ([x.a], [], [x.c], true)
  else if x.op = 9 then ([], [], [x.c], true)
  else ([], [], [], false)

theorem reads_new0 (W : World) : Reads W (.slice none 0 0) (ints []) := .inl ⟨rfl, none, 0, rfl, by decide, fun _ => rfl⟩
theorem reads_new1 {W : World} {b : Nat} {a : Int} (h : W.cell? ⟨b, 0, none⟩ = some (.int .i64 a)) : Reads W (.slice (some ⟨b, 0, none⟩) 1 1) (ints [a]) :=
  .inr ⟨by simp [ints], b, 0, 1, rfl, by simp [ints], by decide, fun i u hu => by
    match i, hu with
    | 0, hu => simp [ints] at hu; subst hu; exact h⟩
theorem reads_new2 {W : World} {b : Nat} {a c : Int} (h : W.cell? ⟨b, 0, none⟩ = some (.int .i64 a)) (h1 : W.cell? ⟨b, 1, none⟩ = some (.int .i64 c)) : Reads W (.slice (some ⟨b, 0, none⟩) 2 2) (ints [a, c]) :=
  .inr ⟨by simp [ints], b, 0, 2, rfl, by simp [ints], by decide, fun i u hu => by
    match i, hu with
    | 0, hu => simp [ints] at hu; subst hu; exact h
    | 1, hu => simp [ints] at hu; subst hu; exact h1⟩

theorem nclose {w W : World} {rv wv lv : Value} {ok : Bool} {x : Ln} {r ws ls : List Int} (hn : namesOf x = (r, ws, ls, ok)) (h1 : Reads W rv (ints r)) (h2 : Reads W wv (ints ws)) (h3 : Reads W lv (ints ls)) (h4 : Below w.heap.size w W) :
    ∃ rv' wv' lv', Ending.returned (.tuple #[.agg #[rv, wv, lv], .bool ok]) = Ending.returned (.tuple #[.agg #[rv', wv', lv'], .bool (namesOf x).2.2.2]) ∧
      Reads W rv' (ints (namesOf x).1) ∧ Reads W wv' (ints (namesOf x).2.1) ∧ Reads W lv' (ints (namesOf x).2.2.1) ∧ Below w.heap.size w W :=
  ⟨rv, wv, lv, by rw [hn], by rw [hn]; exact h1, by rw [hn]; exact h2, by rw [hn]; exact h3, h4⟩

set_option maxRecDepth 100000 in
set_option maxHeartbeats 4000000 in
theorem named_walk (x : Ln) (w : World) :
    Calls Try.prog 32 #[.agg #[.int .i64 x.op, .int .i64 x.a, .int .i64 x.b, .int .i64 x.c]] w fun e w' => ∃ rv wv lv, e = .returned (.tuple #[.agg #[rv, wv, lv], .bool (namesOf x).2.2.2]) ∧
      Reads w' rv (ints (namesOf x).1) ∧ Reads w' wv (ints (namesOf x).2.1) ∧ Reads w' lv (ints (namesOf x).2.2.1) ∧ Below w.heap.size w w' := by
  obtain ⟨op, a, b, c⟩ := x
  go_enter Try.func32, Try.ntmps32
  go_wp2
  all_goals go_returns
  all_goals first
    | (refine nclose (r := [a]) (ws := [b]) (ls := []) ?_ ?_ ?_ ?_ ?_; focus (simp_all [namesOf]; done))
    | (refine nclose (r := [b]) (ws := [a]) (ls := []) ?_ ?_ ?_ ?_ ?_; focus (simp_all [namesOf]; done))
    | (refine nclose (r := [b, c]) (ws := [a]) (ls := []) ?_ ?_ ?_ ?_ ?_; focus (simp_all [namesOf]; done))
    | (refine nclose (r := [a]) (ws := []) (ls := []) ?_ ?_ ?_ ?_ ?_; focus (simp_all [namesOf]; done))
    | (refine nclose (r := [a, b]) (ws := []) (ls := []) ?_ ?_ ?_ ?_ ?_; focus (simp_all [namesOf]; done))
    | (refine nclose (r := [a]) (ws := []) (ls := [c]) ?_ ?_ ?_ ?_ ?_; focus (simp_all [namesOf]; done))
    | (refine nclose (r := []) (ws := []) (ls := [c]) ?_ ?_ ?_ ?_ ?_; focus (simp_all [namesOf]; done))
    | (refine nclose (r := []) (ws := []) (ls := []) ?_ ?_ ?_ ?_ ?_; focus (simp_all [namesOf]; done))
  all_goals first
    | exact reads_new0 _
    | (refine reads_new1 ?_; simp [go_sem]; done)
    | (refine reads_new2 ?_ ?_ <;> (simp [go_sem]; done))
    | ((repeat (refine Below.alloc ?_ (by simp <;> omega) _)); exact Below.refl _ _)
end Go.Proofs.Ytmpgjnindbklaaa
