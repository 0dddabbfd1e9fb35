import Derived.Test.YtmpgjnindbklaaaEBegin
import Derived.Lib.SliceRun
namespace Go.Proofs.Ytmpgjnindbklaaa
open Go.RowKit BA Ex

theorem ints_one (xs : List Int) : ∀ u ∈ ints xs, u.oneCell' = true := by
  intro u hu
  simp only [ints, List.mem_map] at hu
  obtain ⟨a, _, rfl⟩ := hu
  rfl
theorem OwnS.empty (w : World) (t : TypeId) {base : Nat} (hb : base ≤ w.heap.size) : OwnS (w.alloc (.cells #[] t (0, 0))) base 1 (.slice (some ⟨w.heap.size, 0, none⟩) 0 0) 0 [] :=
  ⟨t, rfl, .inr ⟨w.heap.size, 0, #[], rfl, hb, heap_alloc_new _ _, Nat.le_refl _, by unfold maxLen; omega, rfl, rfl⟩⟩

set_option maxRecDepth 100000 in
set_option maxHeartbeats 4000000 in
theorem clone_walk (b o c : Nat) (xs : List Int) (w : World) (h : ∀ j u, (ints xs)[j]? = some u → w.cell? ⟨b, o + j, none⟩ = some u) (hl : xs.length ≤ 1000) :
    Calls Try.prog 45 #[.slice (some ⟨b, o, none⟩) xs.length c] w fun e w' => ∃ v', e = .returned v' ∧ OwnS w' w.heap.size 1 v' xs.length (ints xs) ∧ Below w.heap.size w w' := by
  have hnil : ∀ w n c, (binOp .eql 22 (.slice (some ⟨b, o, none⟩) n c) (.slice none 0 0)).run Try.prog w = .ok (.bool false) w := fun w n c => Lib.run_eql_slice_nil w 22 3 _ n c 0 0 Try.underlying22
  have hsame : ∀ j u, (ints xs)[j]? = some u → (w.alloc (.cells #[] 3 (0, 0))).cell? ((⟨b, o, none⟩ : Addr).add j) = some u := fun j u hj => by
    rw [Addr.add_lit]
    have hc := h j u hj
    exact (World.cell?_of_block (a := ⟨b, o + j, none⟩) (w := w) (Below.heap_alloc _ _ _ (World.block_lt_of_cell? w _ hc))).trans hc
  have hown := OwnS.empty w 3 (Nat.le_refl _)
  have hb0 : Below w.heap.size w (w.alloc (.cells #[] 3 (0, 0))) := (Below.refl _ _).alloc (Nat.le_refl _) _
  go_enter Try.func45, Try.ntmps45
  go_wp2_with (at_builtin; refine wpList_append_ownS _ rfl (.tmp 5) (.tmp 6) 22 rfl w.heap.size 3 Try.t3 (.int .i64 0) 1 8 Try.underlying22 (by kernel_rfl) rfl rfl rfl rfl (by decide) _ 0 [] rfl hown ⟨b, o, none⟩ xs.length c (ints xs) rfl (by simp [ints]) hsame (ints_one xs) (by unfold maxLen; omega) (by omega) (by simp) ?_; intro v' w' hv' hg' hob')
  go_ret
  exact ⟨_, rfl, by simpa using hv', hb0.grown hg' (by simp) (fun k hk => by cases hk; exact Nat.le_refl _)⟩
end Go.Proofs.Ytmpgjnindbklaaa
