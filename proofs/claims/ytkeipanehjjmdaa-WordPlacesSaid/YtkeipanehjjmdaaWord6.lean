/-
  The walk of WordPacks: it returns true and changes nothing that was there.
-/
import Derived.Test.YtkeipanehjjmdaaWord5
import Derived.Deep.QuietTactic
import Derived.BigQuiet
namespace Go.Proofs.Ytkeipanehjjmdaa
open Go.RowKit WM
theorem quiet_eq {P : Program} {f : FuncId} {args : Array Value} {w : World} {n : Nat} {v : Value}
    (h : Calls P f args (w.drewN n) fun e w' => e = .returned v ∧ w.drewN n = w') : Calls P f args (w.drewN n) fun e w'' => e = .returned v ∧ ∃ m, w'' = w.drewN m :=
  h.mono fun _ _ ⟨he, hm⟩ => ⟨he, n, hm.symm⟩
set_option maxRecDepth 100000 in
set_option maxHeartbeats 1000000 in
theorem wordPacks_walk (i t x n : Int) (w : World) (_ : (Lit.int .i64 i).wf = true) (_ : (Lit.int .i64 t).wf = true) (_ : (Lit.int .i64 x).wf = true) (_ : (Lit.int .i64 n).wf = true) : Calls Try.prog 6 #[.int .i64 i, .int .i64 t, .int .i64 x, .int .i64 n] w fun e w' => e = .returned (.bool true) ∧ Below w.heap.size w w' := by
  go_enter Try.func6, Try.ntmps6
  go_wp2_with (first | (go_at_call 22; refine (wknown _).mono ?_; rintro e w1 ⟨rfl, hb1⟩) | (go_at_call 23; refine (pack_any _ _ _).mono ?_; rintro e w' ⟨rfl, rfl⟩) | (go_at_call 24; refine (rpack_any _ _ _).mono ?_; rintro e w' ⟨rfl, rfl⟩) | (go_at_call 25; refine (num_any _ _).mono ?_; rintro e w' ⟨rfl, rfl⟩) | (go_at_call 26; refine (index_any _ _).mono ?_; rintro e w' ⟨rfl, rfl⟩) | (go_at_call 27; refine (rindex_any _ _).mono ?_; rintro e w' ⟨rfl, rfl⟩) | (go_at_call 28; refine (tag_any _ _).mono ?_; rintro e w' ⟨rfl, rfl⟩) | (go_at_call 29; refine (rtag_any _ _).mono ?_; rintro e w' ⟨rfl, rfl⟩))
  generalize hW : w1.alloc (Obj.cells #[Value.int .i64 x, Value.int .i64 (pkV i t)] 3) = W
  have hc0 : W.cell? ⟨w1.heap.size, 0, none⟩ = some (.int .i64 x) := by subst hW; simp
  have hc1 : W.cell? ⟨w1.heap.size, 1, none⟩ = some (.int .i64 (pkV i t)) := by subst hW; simp
  have hbW : Below w.heap.size w W := by subst hW; exact hb1.alloc hb1.size _
  clear hW
  go_loopw [14] (fun j wr => ∃ k : Nat, k ≤ 2 ∧ j = .int .i64 k ∧ wr.cell? ⟨w1.heap.size, 0, none⟩ = some (.int .i64 x) ∧ wr.cell? ⟨w1.heap.size, 1, none⟩ = some (.int .i64 (pkV i t)) ∧ Below w.heap.size w wr) (fun j _ => 2 - (intOf j).toNat)
  case atStart => exact ⟨0, by omega, rfl, hc0, hc1, hbW⟩
  case round =>
    clear hc0 hc1 hbW
    obtain ⟨k, hk, rfl, hc0, hc1, hbW⟩ := hrel
    match k, hk with
    | 2, _ =>
      go_wp2
      go_ret
      exact ⟨rfl, hbW⟩
    | 0, _ =>
      go_wp2_with (first | (go_at_call 30; refine (next_any _ _ _).mono ?_; rintro e w' ⟨rfl, rfl⟩) | (go_at_call 31; refine (rnext_any _ _ _).mono ?_; rintro e w' ⟨rfl, rfl⟩))
      go_quiet (first | (go_at_call 25; exact quiet_eq (num_any _ _)) | (go_at_call 26; exact quiet_eq (index_any _ _)) | (go_at_call 27; exact quiet_eq (rindex_any _ _)) | (go_at_call 28; exact quiet_eq (tag_any _ _)) | (go_at_call 29; exact quiet_eq (rtag_any _ _)))
      go_wp2
      go_roundw
      case rel => exact ⟨1, by omega, rfl, hc0, hc1, below_drewN hbW _⟩
      case measure => simp [intOf]
    | 1, _ =>
      go_wp2_with (first | (go_at_call 30; refine (next_any _ _ _).mono ?_; rintro e w' ⟨rfl, rfl⟩) | (go_at_call 31; refine (rnext_any _ _ _).mono ?_; rintro e w' ⟨rfl, rfl⟩))
      go_quiet (first | (go_at_call 25; exact quiet_eq (num_any _ _)) | (go_at_call 26; exact quiet_eq (index_any _ _)) | (go_at_call 27; exact quiet_eq (rindex_any _ _)) | (go_at_call 28; exact quiet_eq (tag_any _ _)) | (go_at_call 29; exact quiet_eq (rtag_any _ _)))
      go_wp2
      go_roundw
      case rel => exact ⟨2, by omega, rfl, hc0, hc1, below_drewN hbW _⟩
      case measure => simp [intOf]
end Go.Proofs.Ytkeipanehjjmdaa
