import Derived.Test.YtmpgjnindbklaaaESpec
import Derived.Test.YtmpgjnindbklaaaBase2
import Derived.Test.YtmpgjnindbklaaaRows
import Derived.BigQuiet
namespace Go.Proofs.Ytmpgjnindbklaaa
open Go.RowKit BA Ex

def lnV (x : Ln) : Value := .agg #[.int .i64 x.op, .int .i64 x.a, .int .i64 x.b, .int .i64 x.c]

theorem ret1 {P : Program} {fn : Func} {d : Nat} {a : Act} {w : World} {v : Value} {R : Ending → World → Prop} (hr : fn.results = #[.tmp d]) (hd : a.defers = []) (hv : a.tmps.getD d undef = v) (h : R (.returned v) w) :
    bodyPost P fn R .ret a w := by
  subst hv
  exact bodyPost_ret (results_tmp hr _ _ _) hd h

set_option maxHeartbeats 1000000 in
theorem reg_walk (n : Int) (w : World) : Calls Try.prog 49 #[.int .i64 n] w fun e w' => e = .returned (.bool (reg n)) ∧ w' = w := by
  go_enter Try.func49, Try.ntmps49
  go_wp2
  all_goals (go_ret; refine ⟨congrArg (fun b => Ending.returned (.bool b)) ?_, rfl⟩; simp only [reg]; first | (simp_all; done) | (simp_all; omega))

set_option maxRecDepth 100000 in
set_option maxHeartbeats 4000000 in
theorem lineOK_walk (ao : Option Addr) (n c lines : Nat) (st : Value) (x : Ln) (w : World) :
    Calls Try.prog 34 #[.agg #[.slice ao n c, st], .agg #[.int .i64 x.op, .int .i64 x.a, .int .i64 x.b, .int .i64 x.c], .int .i64 lines] w fun e w' => e = .returned (.bool (lineOK n lines x)) ∧ Below w.heap.size w w' := by
  obtain ⟨op, a, b, k⟩ := x
  go_enter Try.func34, Try.ntmps34
  go_wp2_with (go_at_call 49; refine (reg_walk _ _).mono ?_; rintro e w' ⟨rfl, rfl⟩)
  all_goals (try go_ret)
  all_goals refine ⟨congrArg Ending.returned (show _ = Value.bool _ from congrArg Value.bool (?_ : _ = _)), ((Below.refl _ _).alloc (Nat.le_refl _) _).alloc (by simp) _⟩
  all_goals first
    | (simp_all [lineOK, word, place]; done)
    | (simp_all [lineOK, word, place]; omega)
end Go.Proofs.Ytmpgjnindbklaaa
