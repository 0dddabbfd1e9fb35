import Derived.Test.YtmpgjnindbklaaaEGrid
import Derived.Test.YtmpgjnindbklaaaEChk1
import Derived.Deep.RegionHeld3
namespace Go.Proofs.Ytmpgjnindbklaaa
open Go.RowKit BA Ex

def eqTo (a b : List Int) (i : Nat) : Prop := ∀ j, j < i → g a j = g b j
theorem eq_of_to {a b : List Int} (hl : a.length = b.length) (h : eqTo a b a.length) : a = b := by
  apply List.ext_getElem hl
  intro i h1 h2
  have := h i h1
  simpa [g, List.getD_eq_getElem?_getD, h1, h2] using this
theorem cell_below' {w w' : World} (h : Below w.drew.heap.size w.drew w') {a : Addr} {u : Value} (hc : w.cell? a = some u) : w'.cell? a = some u :=
  (World.cell?_of_block (w := w) (h.block a.block (World.block_lt_of_cell? w _ hc))).trans hc
theorem below_draws {w w' : World} {B : Nat} (h : Below B w w') : Below B w w'.drew := h.drew

set_option maxRecDepth 100000 in
set_option maxHeartbeats 4000000 in
theorem ints_walk (u v : Value) (a b : List Int) (w : World) (hu : Reads w u (ints a)) (hv : Reads w v (ints b)) (h1 : a.length ≤ 1000000) :
    Calls Try.prog 22 #[u, v] w fun e w' => e = .returned (.bool (decide (a = b))) ∧ Below w.heap.size w w' := by
  obtain ⟨ua, uc, rfl⟩ := ints_shape hu
  obtain ⟨va, vc, rfl⟩ := ints_shape hv
  have HU := Lib.hid hu
  have HV := Lib.hid hv
  clear hu hv
  go_enter Try.func22, Try.ntmps22
  by_cases hl : a.length = b.length
  · go_wp2_with fail
    go_loopw [5] (fun iv wr => ∃ i : Nat, i ≤ a.length ∧ iv = .int .i64 i ∧ Below w.heap.size w wr ∧ eqTo a b i) (fun iv _ => a.length - (intOf iv).toNat)
    case atStart => exact ⟨0, by omega, rfl, Below.refl _ _, fun j hj => by omega⟩
    case round =>
      obtain ⟨i, hi, rfl, hB, hE⟩ := hrel
      by_cases hlt : i < a.length
      · have hlt' : i < b.length := by omega
        have hu := HU.out.same (w' := wr) (fun k _ hk => hB.block k hk)
        have hv := HV.out.same (w' := wr) (fun k _ hk => hB.block k hk)
        obtain ⟨b1, o1, c1, e1, _⟩ := ints_form hu (by omega)
        cases e1
        obtain ⟨b2, o2, c2, e2, _⟩ := ints_form hv (by omega)
        cases e2
        have q1 : wr.cell? ⟨b1, o1 + i, none⟩ = some (.int .i64 (g a i)) := ints_at hu hlt
        have q2 : wr.cell? ⟨b2, o2 + i, none⟩ = some (.int .i64 (g b i)) := ints_at hv hlt'
        have hili : (i : Int) < (b.length : Int) := by omega
        clear hu hv
        by_cases he : g a i = g b i
        · have hE' : eqTo a b (i + 1) := fun j hj => by
            by_cases hji : j = i
            · subst hji; exact he
            · exact hE j (by omega)
          have he' : (g a i != g b i) = false := by simpa using he
          have HE' := Lib.hid hE'
          clear he hE hE'
          generalize g a i = x at q1 he'
          generalize g b i = y at q2 he'
          go_wp2
          go_region
          go_wp2
          go_roundw
          case rel => exact ⟨i + 1, by omega, by go_num, hB.drew, HE'.out⟩
          case measure => simp [intOf]; omega
        · have he' : (g a i != g b i) = true := by simpa using he
          have hne : decide (a = b) = false := decide_eq_false (fun e => he (by rw [e]))
          have HN := Lib.hid hne
          clear he hE hne
          generalize g a i = x at q1 he'
          generalize g b i = y at q2 he'
          go_wp2
          go_region
          go_wp2
          go_ret
          exact ⟨by rw [HN.out]; rfl, hB.drew⟩
      · obtain rfl : i = a.length := by omega
        have hh : decide (a = b) = true := decide_eq_true (eq_of_to hl hE)
        have HH := Lib.hid hh
        clear hh
        go_wp2
        go_ret
        exact ⟨by rw [HH.out]; rfl, hB⟩
  · have hne : decide (a = b) = false := decide_eq_false (fun e => hl (by rw [e]))
    have HN := Lib.hid hne
    have hli : ¬ ((a.length : Int) = (b.length : Int)) := by omega
    clear hne
    go_wp2
    go_ret
    exact ⟨by rw [HN.out]; rfl, Below.refl _ _⟩

theorem rows_ne {a b : List (List Int)} {i : Nat} (h : ¬ a.getD i [] = b.getD i []) : decide (a = b) = false := decide_eq_false (fun e => h (by rw [e]))
def rowsTo (a b : List (List Int)) (i : Nat) : Prop := ∀ j, j < i → a.getD j [] = b.getD j []
theorem rows_of_to {a b : List (List Int)} (hl : a.length = b.length) (h : rowsTo a b a.length) : a = b := by
  apply List.ext_getElem hl
  intro i h1 h2
  have := h i h1
  simpa [List.getD_eq_getElem?_getD, h1, h2] using this
theorem IGrid.shape {w : World} {v : Value} {ls : List (List Int)} (h : IGrid w v ls) : ∃ ao c, v = .slice ao ls.length c := by
  obtain ⟨vs, hl, hr, _⟩ := h
  obtain ⟨ao, c, hv⟩ := hr.shape
  exact ⟨ao, c, by rw [hv, hl]⟩
theorem IGrid.same {w w' : World} {v : Value} {ls : List (List Int)} (h : IGrid w v ls) (hb : ∀ k, k < w.heap.size → w'.heap[k]? = w.heap[k]?) : IGrid w' v ls := by
  obtain ⟨vs, hl, hr, h2⟩ := h
  exact ⟨vs, hl, hr.same fun k _ hk => hb k hk, fun k u l hu hl' => (h2 k u l hu hl').same fun j _ hj => hb j hj⟩
theorem IGrid.at' {w : World} {v : Value} {ls : List (List Int)} (h : IGrid w v ls) {k : Nat} (hk : k < ls.length) : ∃ b o c u, v = .slice (some ⟨b, o, none⟩) ls.length c ∧ w.cell? ⟨b, o + k, none⟩ = some u ∧ Reads w u (ints (ls.getD k [])) := by
  obtain ⟨vs, hl, hr, h2⟩ := h
  have hkv : k < vs.length := by omega
  rcases hr with ⟨h0, _⟩ | ⟨_, b, o, c, hv, _, _, h3⟩
  · rw [h0] at hkv; simp at hkv
  · refine ⟨b, o, c, vs[k], by rw [hv, hl], h3 k _ (List.getElem?_eq_getElem hkv), ?_⟩
    have := h2 k vs[k] (ls[k]) (List.getElem?_eq_getElem hkv) (List.getElem?_eq_getElem hk)
    simpa [List.getD_eq_getElem?_getD, hk] using this

set_option maxRecDepth 100000 in
set_option maxHeartbeats 4000000 in
theorem rows_walk (u v : Value) (a b : List (List Int)) (w : World) (hu : IGrid w u a) (hv : IGrid w v b) (h1 : a.length ≤ 1000000)
    (h3 : ∀ k, (a.getD k []).length ≤ 1000000) :
    Calls Try.prog 17 #[u, v] w fun e w' => e = .returned (.bool (decide (a = b))) ∧ Below w.heap.size w w' := by
  obtain ⟨ua, uc, rfl⟩ := hu.shape
  obtain ⟨va, vc, rfl⟩ := hv.shape
  have HU := Lib.hid hu
  have HV := Lib.hid hv
  have H3 := Lib.hid h3
  clear hu hv h3
  by_cases hl : a.length = b.length
  · have HVV : Hid (IGrid w (.slice va a.length vc) b) := Lib.hid (by rw [hl]; exact HV.out)
    clear HV
    rw [← hl]
    have HL := Lib.hid hl
    clear hl
    go_enter Try.func17, Try.ntmps17
    go_wp2_with fail
    go_loopw [5] (fun iv wr => ∃ i : Nat, i ≤ a.length ∧ iv = .int .i64 i ∧ Below w.heap.size w wr ∧ rowsTo a b i) (fun iv _ => a.length - (intOf iv).toNat)
    case atStart => exact ⟨0, by omega, rfl, Below.refl _ _, fun j hj => by omega⟩
    case round =>
      obtain ⟨i, hi, rfl, hB, hE⟩ := hrel
      by_cases hlt : i < a.length
      · have hlt' : i < b.length := by rw [← HL.out]; exact hlt
        have hu := HU.out.same (w' := wr) (fun k hk => hB.block k hk)
        have hv := HVV.out.same (w' := wr) (fun k hk => hB.block k hk)
        obtain ⟨b1, o1, c1, x, e1, q1, r1⟩ := hu.at' hlt
        cases e1
        obtain ⟨b2, o2, c2, y, e2, q2, r2⟩ := hv.at' hlt'
        rw [← HL.out] at e2
        cases e2
        have R1 := Lib.hid r1
        have R2 := Lib.hid r2
        clear hu hv r1 r2
        obtain ⟨rb, hrb⟩ : ∃ r, decide (a.getD i [] = b.getD i []) = r := ⟨_, rfl⟩
        have HRB := Lib.hid hrb
        clear hrb
        go_wp2_with fail
        go_region_held3 (fun w' => w'.cell? ⟨b1, o1 + i, none⟩ = some x ∧ w'.cell? ⟨b2, o2 + i, none⟩ = some y) (go_keep)
          (first | (go_at_call 22; (refine (ints_walk x y (a.getD i []) (b.getD i []) _ R1.out.drew R2.out.drew (H3.out i)).mono ?_; rintro e w5 ⟨rfl, hb5⟩; rw [HRB.out]; have k1 : w5.cell? ⟨b1, o1 + i, none⟩ = some x := cell_below' hb5 q1; have k2 : w5.cell? ⟨b2, o2 + i, none⟩ = some y := cell_below' hb5 q2)))
        have hB5 : Below w.heap.size w w5 := hB.drew.trans (hb5.mono (by have := hB.size; simp; omega))
        clear k1 k2
        by_cases he : a.getD i [] = b.getD i []
        · have hE' : rowsTo a b (i + 1) := fun j hj => by
            by_cases hji : j = i
            · subst hji; exact he
            · exact hE j (by omega)
          have hd : rb = true := by rw [← HRB.out]; exact decide_eq_true he
          have HE' := Lib.hid hE'
          clear he hE hE' HRB
          subst hd
          go_wp2
          go_roundw
          case rel => exact ⟨i + 1, by omega, by go_num, hB5, HE'.out⟩
          case measure => simp [intOf]; omega
        · have hne := rows_ne he
          have hd : rb = false := by rw [← HRB.out]; exact decide_eq_false he
          have HN := Lib.hid hne
          clear he hE hne HRB
          subst hd
          go_wp2
          go_ret
          exact ⟨by rw [HN.out]; rfl, hB5⟩
      · obtain rfl : i = a.length := by omega
        have hh : decide (a = b) = true := decide_eq_true (rows_of_to HL.out hE)
        have HH := Lib.hid hh
        clear hh
        go_wp2
        go_ret
        exact ⟨by rw [HH.out]; rfl, hB⟩
  · have hne : decide (a = b) = false := decide_eq_false (fun e => hl (by rw [e]))
    have HN := Lib.hid hne
    have hli : ¬ ((a.length : Int) = (b.length : Int)) := by omega
    clear hne
    go_enter Try.func17, Try.ntmps17
    go_wp2
    go_ret
    exact ⟨by rw [HN.out]; rfl, Below.refl _ _⟩
end Go.Proofs.Ytmpgjnindbklaaa
