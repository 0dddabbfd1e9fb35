import Derived.Test.YtmpgjnindbklaaaERow
namespace Go.Proofs.Ytmpgjnindbklaaa
open Go.RowKit BA Ex

/-- A state and a program, boxed by the call. -/
structure RSP (w wr : World) (N : Nat) (c : List Int) (bad : Bool) (sw st : Value) (p : Lt) : Prop where
  below : Below N w wr
  s : Sta wr N c bad
  box : wr.heap[N + 1]? = some (.cells #[sw, st] 25 (0, 0))
  has : PHas wr sw st p

theorem RSP.more {w wr w' : World} {N : Nat} {c : List Int} {bad : Bool} {sw st : Value} {p : Lt} (h : RSP w wr N c bad sw st p) (hb : Below wr.heap.size wr w') : RSP w w' N c bad sw st p := by
  have hlt : N + 1 < wr.heap.size := by have := h.box; rw [Array.getElem?_eq_some_iff] at this; exact this.1
  exact ⟨h.below.trans (hb.mono (by omega)), ⟨h.s.len, (hb.block N (by omega)).trans h.s.blk⟩, (hb.block (N + 1) hlt).trans h.box, h.has.below hb⟩
theorem RSP.cell0 {w wr : World} {N : Nat} {c : List Int} {bad : Bool} {sw st : Value} {p : Lt} (h : RSP w wr N c bad sw st p) : wr.cell? ⟨N + 1, 0, none⟩ = some sw := by simp [World.cell?, h.box]
theorem RSP.cell1 {w wr : World} {N : Nat} {c : List Int} {bad : Bool} {sw st : Value} {p : Lt} (h : RSP w wr N c bad sw st p) : wr.cell? ⟨N + 1, 1, none⟩ = some st := by simp [World.cell?, h.box]
theorem RSP.begin {w : World} {c : List Int} {bad : Bool} {sw st : Value} {p : Lt} (h : PHas w sw st p) (hc : c.length = 28) :
    RSP w ((w.alloc (.cells (stA c bad) 70 (0, 0))).alloc (.cells #[sw, st] 25 (0, 0))) w.heap.size c bad sw st p := by
  have hb : Below w.heap.size w ((w.alloc (.cells (stA c bad) 70 (0, 0))).alloc (.cells #[sw, st] 25 (0, 0))) :=
    ((Below.refl _ _).alloc (Nat.le_refl _) _).alloc (by simp) _
  refine ⟨hb, ⟨hc, ?_⟩, ?_, h.below hb⟩
  · rw [Below.heap_alloc _ _ _ (by simp), heap_alloc_new]; rfl
  · simpa using heap_alloc_new (w.alloc (.cells (stA c bad) 70 (0, 0))) (.cells #[sw, st] 25 (0, 0))

def overTo (p : Lt) (c : List Int) (k : Nat) : Prop := ∀ j, j < k → ((p.threads.getD j []).length : Int) ≤ g c (8 + j)
theorem over_iff (p : Lt) (c : List Int) (bad : Bool) : over p ⟨c, bad⟩ = true ↔ overTo p c p.threads.length ∧ bad = false := by
  simp [over, overTo]
theorem over_not {p : Lt} {c : List Int} {bad : Bool} {k : Nat} (hk : k < p.threads.length) (h : g c (8 + k) < ((p.threads.getD k []).length : Int)) : over p ⟨c, bad⟩ = false := by
  rw [← Bool.not_eq_true, over_iff]
  rintro ⟨h1, _⟩
  have := h1 k hk
  omega

set_option maxRecDepth 100000 in
set_option maxHeartbeats 4000000 in
theorem over_walk (sw st : Value) (c : List Int) (bad : Bool) (p : Lt) (w : World) (h : PHas w sw st p) (hc : c.length = 28) (hT : p.threads.length ≤ 4) :
    Calls Try.prog 30 #[.agg (stA c bad), .agg #[sw, st]] w fun e w' => e = .returned (.bool (over p ⟨c, bad⟩)) ∧ Below w.heap.size w w' := by
  obtain ⟨at0, ct, rfl⟩ := h.threads.shape
  have hR := RSP.begin (bad := bad) h hc
  clear h
  have hone := stA_one c bad
  generalize hA : stA c bad = A at hone hR ⊢
  have HA := Lib.hid hA
  clear hA
  go_enter Try.func30, Try.ntmps30
  go_wp2
  generalize hW : (w.alloc (.cells A 70)).alloc (.cells #[sw, .slice at0 p.threads.length ct] 25) = w0 at hR ⊢
  clear hW
  generalize hN : w.heap.size = N at hR ⊢
  have HN := Lib.hid hN
  clear hN
  go_loopw [10] (fun kv wr => ∃ k : Nat, k ≤ p.threads.length ∧ kv = .int .i64 k ∧ RSP w wr N c bad sw (.slice at0 p.threads.length ct) p ∧ overTo p c k) (fun kv _ => p.threads.length - (intOf kv).toNat)
  case atStart => exact ⟨0, by omega, rfl, hR, fun j hj => by omega⟩
  case round =>
    clear hR
    obtain ⟨k, hk, rfl, hR, hO⟩ := hrel
    by_cases hlt : k < p.threads.length
    · obtain ⟨b, o, c', tv, hv, hbl, hct, hL⟩ := hR.has.threads.at' hlt
      cases hv
      obtain ⟨al, cl, rfl⟩ := hL.shape
      have hq := hR.s.at' (i := 8 + k) (by omega)
      have hk4 : (k : Int) < 4 := by omega
      have hnl : N < wr.heap.size := hR.s.lt
      by_cases hv : g c (8 + k) < ((p.threads.getD k []).length : Int)
      · have hno := over_not (bad := bad) hlt hv
        generalize p.threads.getD k [] = tt at hL hct hv
        generalize g c (8 + k) = v at hq hv
        go_wp2
        go_ret
        exact ⟨by rw [hno]; rfl, by rw [HN.out]; exact hR.below⟩
      · have hO' : overTo p c (k + 1) := fun j hj => by
          by_cases hjk : j = k
          · subst hjk; omega
          · exact hO j (by omega)
        generalize p.threads.getD k [] = tt at hL hct hv
        generalize g c (8 + k) = v at hq hv
        go_wp2
        go_roundw
        case rel => exact ⟨k + 1, by omega, by go_num, hR, hO'⟩
        case measure => simp [intOf]; omega
    · obtain rfl : k = p.threads.length := by omega
      have hb := hR.s.badc
      go_wp2
      go_ret
      refine ⟨congrArg (fun b => Ending.returned (.bool b)) ?_, by rw [HN.out]; exact hR.below⟩
      cases bad with
      | true => exact (Bool.eq_false_iff.2 (fun hh => by have := ((over_iff p c true).1 hh).2; cases this)).symm
      | false => exact ((over_iff p c false).2 ⟨hO, rfl⟩).symm
end Go.Proofs.Ytmpgjnindbklaaa
