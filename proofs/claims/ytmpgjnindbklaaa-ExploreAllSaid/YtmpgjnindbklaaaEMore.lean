import Derived.Test.YtmpgjnindbklaaaESame
import Derived.Test.YtmpgjnindbklaaaEGrid
import Derived.Test.YtmpgjnindbklaaaEFollow
import Derived.Test.YtmpgjnindbklaaaBase
import Derived.StillTailTactics
import Derived.WalkMore
import Derived.Test.YtmpgjnindbklaaaEGoes
namespace Go.Proofs.Ytmpgjnindbklaaa
open Go.RowKit BA Ex

theorem reads_kept {w w' : World} {v : Value} {l : List Int} (h : Reads w v (ints l)) (hb : Below w.heap.size w w') : Reads w' v (ints l) := h.same fun k _ hk => hb.block k hk
theorem wrap_u64 (n : Int) : 0 ≤ IntKind.u64.wrap n := by
  simp only [IntKind.wrap, IntKind.signed, Bool.false_and, Bool.false_eq_true, if_false]
  exact Int.emod_nonneg _ (by decide)
/-- What the book's hash does with a number. -/
def hashS (h x : Int) : Int := bits .xor .u64 (IntKind.u64.wrap (bits .xor .u64 h (IntKind.u64.wrap x) * 1099511628211)) (IntKind.u64.wrap (bits .xor .u64 h (IntKind.u64.wrap x) * 1099511628211) / 536870912)
def hashA (a : List Int) : Int := a.foldl hashS 14695981039346656037
theorem hashS_nonneg (h x : Int) : 0 ≤ hashS h x := by
  unfold hashS bits
  exact wrap_u64 _
theorem hashA_nonneg (a : List Int) : 0 ≤ hashA a := by
  suffices h : ∀ (a : List Int) (z : Int), 0 ≤ z → 0 ≤ a.foldl hashS z from h a _ (by decide)
  intro a
  induction a with
  | nil => exact fun z hz => hz
  | cons x a ih => exact fun z _ => ih _ (hashS_nonneg z x)
theorem hashA_succ (a : List Int) {i : Nat} (hi : i < a.length) : hashA (a.take (i + 1)) = hashS (hashA (a.take i)) (a.getD i 0) := by
  unfold hashA
  rw [List.take_add_one, List.foldl_append, List.getElem?_eq_getElem hi]
  simp [List.getD_eq_getElem?_getD, hi]
/-- The bucket. -/
def hashF (a : List Int) : Nat := (hashA a).toNat % 4096
theorem hashF_lt (a : List Int) : hashF a < 4096 := Nat.mod_lt _ (by decide)
theorem hashF_is (a : List Int) : RowKit.wrap64 ((hashA a).tmod 4096) = (hashF a : Int) := by
  have h := hashA_nonneg a
  unfold hashF RowKit.wrap64
  generalize hashA a = z at h ⊢
  rw [Int.tmod_eq_emod_of_nonneg h]
  omega

set_option maxRecDepth 100000 in
set_option maxHeartbeats 4000000 in
/-- skeinref27's same, of rows of one length. -/
theorem rsame_walk (u v : Value) (a b : List Int) (w : World) (hu : Reads w u (ints a)) (hv : Reads w v (ints b)) (hl : a.length = b.length) (h1 : a.length ≤ 1000000) :
    Calls Try.prog 57 #[u, v] w fun e w' => e = .returned (.bool (decide (a = b))) ∧ Below w.heap.size w w' := by
  obtain ⟨ua, uc, rfl⟩ := ints_shape hu
  obtain ⟨va, vc, rfl⟩ := ints_shape hv
  rw [← hl] at hv ⊢
  have HU := Lib.hid hu
  have HV := Lib.hid hv
  have HL := Lib.hid hl
  clear hu hv hl
  go_enter Try.func57, Try.ntmps57
  go_wp2_with fail
  go_loopw [5] (fun iv wr => ∃ i : Nat, i ≤ a.length ∧ iv = .int .i64 i ∧ Below w.heap.size w wr ∧ ∀ j, j < i → a.getD j 0 = b.getD j 0) (fun iv _ => a.length - (intOf iv).toNat)
  case atStart => exact ⟨0, by omega, rfl, Below.refl _ _, fun j hj => by omega⟩
  case round =>
    obtain ⟨i, hil, rfl, hB, hA⟩ := hrel
    by_cases hlt : i < a.length
    · have hu := reads_kept HU.out hB
      have hv := reads_kept HV.out hB
      obtain ⟨b1, o1, c1, e1, _⟩ := ints_form hu (by omega)
      cases e1
      have hbl : i < b.length := by rw [← HL.out]; exact hlt
      obtain ⟨b2, o2, c2, e2, _⟩ := ints_form hv (by omega)
      rw [← HL.out] at e2
      cases e2
      have q2 := ints_at hv hbl
      have q1 := ints_at hu hlt
      have HB := Lib.hid hB
      have HA := Lib.hid hA
      clear hA hB hu hv hbl
      generalize hx : a.getD i 0 = x at q1
      generalize hy : b.getD i 0 = y at q2
      have HX := Lib.hid hx
      have HY := Lib.hid hy
      clear hx hy
      by_cases hxy : x = y
      · have b1 : (x == y) = true := by simpa using hxy
        have hA2 : ∀ j, j < i + 1 → a.getD j 0 = b.getD j 0 := fun j hj => by
          by_cases hji : j = i
          · subst hji; rw [HX.out, HY.out]; exact hxy
          · exact HA.out j (by omega)
        have HA2 := Lib.hid hA2
        clear hA2 hxy
        go_wp2_with fail
        go_region
        all_goals (
          go_wp2
          go_roundw
          case rel => exact ⟨i + 1, by omega, by go_num, HB.out.drew, HA2.out⟩
          case measure => simp [intOf]; omega)
      · have b1 : (x == y) = false := by simpa using hxy
        have hd : decide (a = b) = false := decide_eq_false (fun e => hxy (by rw [← HX.out, ← HY.out, e]))
        have HD := Lib.hid hd
        clear hd hxy
        go_wp2_with fail
        go_region
        all_goals (
          go_wp2
          go_ret
          exact ⟨congrArg (fun z => Ending.returned (.bool z)) HD.out.symm, HB.out.drew⟩)
    · obtain rfl : i = a.length := by omega
      have hd : decide (a = b) = true := decide_eq_true (by
        apply List.ext_getElem HL.out
        intro j h1 h2
        have := hA j h1
        simpa [List.getD_eq_getElem?_getD, h1, h2] using this)
      have HD := Lib.hid hd
      have HB := Lib.hid hB
      clear hd hA hB
      go_wp2
      go_ret
      exact ⟨congrArg (fun z => Ending.returned (.bool z)) HD.out.symm, HB.out⟩

set_option maxRecDepth 100000 in
set_option maxHeartbeats 4000000 in
theorem hash_walk (u : Value) (a : List Int) (w : World) (hu : Reads w u (ints a)) (h1 : a.length ≤ 1000000) :
    Calls Try.prog 56 #[u] w fun e w' => e = .returned (.int .i64 (hashF a)) ∧ w' = w := by
  obtain ⟨ua, uc, rfl⟩ := ints_shape hu
  have HU := Lib.hid hu
  clear hu
  go_enter Try.func56, Try.ntmps56
  go_wp2_with fail
  go_loopw [3, 4] (fun hv iv wr => ∃ (i : Nat) (h : Int), i ≤ a.length ∧ iv = .int .i64 i ∧ hv = .int .u64 h ∧ h = hashA (a.take i) ∧ wr = w) (fun _ iv _ => a.length - (intOf iv).toNat)
  case atStart => exact ⟨0, _, by omega, rfl, rfl, rfl, rfl⟩
  case round =>
    obtain ⟨i, h, hil, rfl, rfl, hh, hw⟩ := hrel
    subst hw
    have HH := Lib.hid hh
    clear hh
    by_cases hlt : i < a.length
    · obtain ⟨b1, o1, c1, e1, _⟩ := ints_form HU.out (by omega)
      cases e1
      have q1 := ints_at HU.out hlt
      have hsu := hashA_succ a hlt
      rw [← HH.out] at hsu
      generalize a.getD i 0 = x at q1 hsu
      have HSU := Lib.hid hsu
      clear hsu
      go_wp2
      go_roundw
      case rel => exact ⟨i + 1, hashS h x, by omega, by go_num, rfl, HSU.out.symm, trivial⟩
      case measure => simp [intOf]; omega
    · obtain rfl : i = a.length := by omega
      have hfi := hashF_is a
      rw [List.take_length] at HH
      have HF : Hid (RowKit.wrap64 (h.tmod 4096) = (hashF a : Int)) := Lib.hid (by rw [HH.out]; exact hfi)
      clear hfi
      go_wp2
      go_ret
      exact ⟨congrArg (fun z => Ending.returned (.int .i64 z)) HF.out, rfl⟩
end Go.Proofs.Ytmpgjnindbklaaa
namespace Go.Proofs.Ytmpgjnindbklaaa
open Go.RowKit BA Ex

/-- Two values own no block in common. -/
def Off (a b : Value) : Prop := ∀ k, a.ownBlock = some k → b.ownBlock ≠ some k

theorem OwnS.put1 {w : World} {base n g cap : Nat} {xs : List Value} (h : OwnS w base 1 (.slice (some ⟨g, 0, none⟩) n cap) n xs) (i : Nat) (u : Value) : OwnS (w.setCell ⟨g, i, none⟩ u) base 1 (.slice (some ⟨g, 0, none⟩) n cap) n (xs.set i u) := by
  obtain ⟨te, h0, h1⟩ := h
  rcases h1 with ⟨hh, _⟩ | ⟨g', cap', cur, hv, hg, hb, hn, hcap, hsz, ht⟩
  · cases hh
  cases hv
  refine ⟨te, by simpa using h0, .inr ⟨g, cap, _, rfl, hg, cells_set hb, hn, hcap, by simpa using hsz, ?_⟩⟩
  rw [← ht]
  simp [Array.toList_setIfInBounds, List.take_set]
theorem Off.symm {a b : Value} (h : Off a b) : Off b a := fun k hk hk' => h k hk' hk
theorem Off.none' {a b : Value} (h : Off a b) : a.ownBlock = none ∨ a.ownBlock ≠ b.ownBlock := by
  cases ha : a.ownBlock with
  | none => exact .inl rfl
  | some k => exact .inr fun e => h k ha e.symm
/-- What an append hands back: the old block, none, or a new one. -/
def New (n : Nat) (u u' : Value) : Prop := u'.ownBlock = u.ownBlock ∨ u'.ownBlock = none ∨ ∃ k, u'.ownBlock = some k ∧ n ≤ k
theorem New.off {n : Nat} {a u u' : Value} (h : New n u u') (ho : Off a u) (hn : ∀ k, a.ownBlock = some k → k < n) : Off a u' := by
  intro k hk hk'
  rcases h with h | h | ⟨j, h, hj⟩
  · exact ho k hk (by rw [← h]; exact hk')
  · rw [h] at hk'; cases hk'
  · rw [h] at hk'; cases hk'
    have := hn k hk; omega
theorem New.ne {n k : Nat} {u u' : Value} (h : New n u u') (hk : u.ownBlock ≠ some k) (hkn : k < n) : u'.ownBlock ≠ some k := by
  intro e
  rcases h with h | h | ⟨j, h, hj⟩
  · exact hk (by rw [← h]; exact e)
  · rw [h] at e; cases e
  · rw [h] at e; cases e; omega

/-- Who owns what of the book of states that were met, in block B. -/
structure BkO (w : World) (base B : Nat) (lv bv : Value) (vs us : List Value) (ls bs : List (List Int)) : Prop where
  box : w.heap[B]? = some (.cells #[lv, bv] 60 (0, 0))
  hB : base ≤ B
  l : OwnS w base 1 lv ls.length vs
  b : OwnS w base 1 bv 4096 us
  lr : ∀ (k : Nat) (v : Value) (x : List Int), vs[k]? = some v → ls[k]? = some x → OwnS w base 1 v x.length (ints x)
  br : ∀ (h : Nat) (u : Value) (y : List Int), us[h]? = some u → bs[h]? = some y → OwnS w base 1 u y.length (ints y)
  bl : bs.length = 4096
  lB : lv.ownBlock ≠ some B
  bB : bv.ownBlock ≠ some B
  lb : Off lv bv
  vB : ∀ v ∈ vs, v.ownBlock ≠ some B
  vl : ∀ v ∈ vs, Off v lv
  vb : ∀ v ∈ vs, Off v bv
  uB : ∀ u ∈ us, u.ownBlock ≠ some B
  ul : ∀ u ∈ us, Off u lv
  ub : ∀ u ∈ us, Off u bv
  vu : ∀ v ∈ vs, ∀ u ∈ us, Off v u
  uu : ∀ (h h' : Nat) (u u' : Value), h ≠ h' → us[h]? = some u → us[h']? = some u' → Off u u'
/-- The book. -/
structure Bk (w : World) (base B : Nat) (lv bv : Value) (vs us : List Value) (ls bs : List (List Int)) (m : Nat) : Prop where
  own : BkO w base B lv bv vs us ls bs
  cont : ∀ (h : Nat) (y : List Int), bs[h]? = some y → ∀ i : Int, i ∈ y ↔ (0 ≤ i ∧ i < (ls.length : Int) ∧ hashF (ls.getD i.toNat []) = h)
  len : ∀ x ∈ ls, x.length = m
  short : ∀ y ∈ bs, y.length ≤ ls.length
/-- Whose blocks are the book's. -/
def Fp (B : Nat) (lv bv : Value) (us : List Value) (k : Nat) : Prop := k = B ∨ lv.ownBlock = some k ∨ bv.ownBlock = some k ∨ ∃ u ∈ us, u.ownBlock = some k
theorem grown_set' {w w' : World} {g : Nat} {u : Value} {i : Nat} {row : Option Nat} (hg : w.grownBy w' row) : ∀ k, k < w.heap.size → some k ≠ row → k ≠ g → (w'.setCell ⟨g, i, none⟩ u).heap[k]? = w.heap[k]? := fun k hk hne hkg =>
  (Below.heap_setCell _ _ _ _ (by simpa using hkg)).trans (hg.block k hk hne)
namespace BkO
variable {w : World} {base B : Nat} {lv bv : Value} {vs us : List Value} {ls bs : List (List Int)}
theorem lt (h : BkO w base B lv bv vs us ls bs) : B < w.heap.size := by have := h.box; rw [Array.getElem?_eq_some_iff] at this; exact this.1
theorem more {w' : World} (h : BkO w base B lv bv vs us ls bs) (hb : Below w.heap.size w w') : BkO w' base B lv bv vs us ls bs :=
  { h with
    box := (hb.block B h.lt).trans h.box
    l := OwnS.below h.l hb
    b := OwnS.below h.b hb
    lr := fun k v x hv hx => OwnS.below (h.lr k v x hv hx) hb
    br := fun k v x hv hx => OwnS.below (h.br k v x hv hx) hb }
theorem c0 (h : BkO w base B lv bv vs us ls bs) : w.cell? ⟨B, 0, none⟩ = some lv := by simp [World.cell?, h.box]
theorem c1 (h : BkO w base B lv bv vs us ls bs) : w.cell? ⟨B, 1, none⟩ = some bv := by simp [World.cell?, h.box]
theorem vlen (h : BkO w base B lv bv vs us ls bs) : vs.length = ls.length := by have := h.l.len; omega
theorem ulen (h : BkO w base B lv bv vs us ls bs) : us.length = 4096 := by have := h.b.len; omega
/-- A bucket. -/
theorem bucket (h : BkO w base B lv bv vs us ls bs) {i : Nat} (hi : i < 4096) : ∃ g cap a c, bv = .slice (some ⟨g, 0, none⟩) 4096 cap ∧ us.getD i undef = .slice a (bs.getD i []).length c ∧ w.cell? ⟨g, i, none⟩ = some (us.getD i undef) ∧ w.frozen? ⟨g, i, none⟩ = false ∧ OwnS w base 1 (us.getD i undef) (bs.getD i []).length (ints (bs.getD i [])) ∧ us[i]? = some (us.getD i undef) ∧ bs[i]? = some (bs.getD i []) := by
  have hu : us[i]? = some (us.getD i undef) := by have := h.ulen; simp [List.getD_eq_getElem?_getD, show i < us.length by omega]
  have hb : bs[i]? = some (bs.getD i []) := by have := h.bl; simp [List.getD_eq_getElem?_getD, show i < bs.length by omega]
  have hr := h.br i _ _ hu hb
  obtain ⟨a, c, e⟩ := ints_shape hr.reads
  have hul := h.ulen
  obtain ⟨te, hown⟩ := h.b
  rcases hown.2 with ⟨_, h0⟩ | ⟨g, cap, cur, hv, hg, hblk, hn, hcap, hsz, ht⟩
  · omega
  · subst hv
    have h1 := hown.cells (g := g) rfl i (us.getD i undef) hu
    rw [Addr.add_lit] at h1
    exact ⟨g, cap, a, c, rfl, e, by simpa using h1, by simp [World.frozen?, hblk], hr, hu, hb⟩
/-- A state's row. -/
theorem row (h : BkO w base B lv bv vs us ls bs) {i : Nat} (hi : i < ls.length) : ∃ g cap a c, lv = .slice (some ⟨g, 0, none⟩) ls.length cap ∧ vs.getD i undef = .slice a (ls.getD i []).length c ∧ w.cell? ⟨g, i, none⟩ = some (vs.getD i undef) ∧ Reads w (vs.getD i undef) (ints (ls.getD i [])) := by
  have hvl := h.vlen
  have hv : vs[i]? = some (vs.getD i undef) := by simp [List.getD_eq_getElem?_getD, show i < vs.length by omega]
  have hl : ls[i]? = some (ls.getD i []) := by simp [List.getD_eq_getElem?_getD, hi]
  have hr := OwnS.reads (h.lr i _ _ hv hl)
  obtain ⟨a, c, e⟩ := ints_shape hr
  obtain ⟨te, hown⟩ := h.l
  rcases hown.2 with ⟨_, h0⟩ | ⟨g, cap, cur, hv', hg, hblk, hn, hcap, hsz, ht⟩
  · omega
  · subst hv'
    have h1 := hown.cells (g := g) rfl i (vs.getD i undef) hv
    rw [Addr.add_lit] at h1
    exact ⟨g, cap, a, c, rfl, e, by simpa using h1, hr⟩
theorem lblk (h : BkO w base B lv bv vs us ls bs) : ∀ k, lv.ownBlock = some k → k < w.heap.size := fun k hk => (h.l.blk k hk).2
theorem bblk (h : BkO w base B lv bv vs us ls bs) : ∀ k, bv.ownBlock = some k → k < w.heap.size := fun k hk => (h.b.blk k hk).2
theorem ublk (h : BkO w base B lv bv vs us ls bs) : ∀ u ∈ us, ∀ k, u.ownBlock = some k → k < w.heap.size := fun u hu k hk => by
  obtain ⟨i, hi, rfl⟩ := List.getElem_of_mem hu
  have hb : i < bs.length := by have := h.ulen; have := h.bl; omega
  exact ((h.br i us[i] bs[i] (List.getElem?_eq_getElem hi) (List.getElem?_eq_getElem hb)).blk k hk).2
theorem vblk (h : BkO w base B lv bv vs us ls bs) : ∀ v ∈ vs, ∀ k, v.ownBlock = some k → k < w.heap.size := fun v hv k hk => by
  obtain ⟨i, hi, rfl⟩ := List.getElem_of_mem hv
  have hb : i < ls.length := by have := h.vlen; omega
  exact ((h.lr i vs[i] ls[i] (List.getElem?_eq_getElem hi) (List.getElem?_eq_getElem hb)).blk k hk).2
/-- A bucket more: appended to, and stored. -/
theorem bucket_add {w' : World} {g cap i : Nat} {u' : Value} {y' : List Int} (h : BkO w base B lv (.slice (some ⟨g, 0, none⟩) 4096 cap) vs us ls bs) (hi : i < 4096) (hg : w.grownBy w' (us.getD i undef).ownBlock)
    (hu : OwnS w' base 1 u' y'.length (ints y')) (hn : New w.heap.size (us.getD i undef) u') : BkO (w'.setCell ⟨g, i, none⟩ u') base B lv (.slice (some ⟨g, 0, none⟩) 4096 cap) vs (us.set i u') ls (bs.set i y') := by
  have hul := h.ulen
  have hbl := h.bl
  have hui : us[i]? = some (us.getD i undef) := by simp [List.getD_eq_getElem?_getD, show i < us.length by omega]
  have hmem : us.getD i undef ∈ us := List.mem_of_getElem? hui
  have hs := grown_set w' g i u'
  generalize us.getD i undef = u at hg hn hui hmem
  have hgw := h.bblk g rfl
  have keep : ∀ {a : Value} {n : Nat} {xs : List Value}, OwnS w base 1 a n xs → Off a u → Off a (.slice (some ⟨g, 0, none⟩) 4096 cap) → OwnS (w'.setCell ⟨g, i, none⟩ u') base 1 a n xs := fun ha ho hb => (ha.kept hg ho.none').kept hs hb.none'
  have hug : Off u' (.slice (some ⟨g, 0, none⟩) 4096 cap) := (hn.off (h.ub u hmem).symm h.bblk).symm
  have huset : ∀ x ∈ us.set i u', x ∈ us ∨ x = u' := fun x hx => by
    rcases List.mem_or_eq_of_mem_set hx with h1 | h1
    · exact .inl h1
    · exact .inr h1
  refine { box := ?_, hB := h.hB, l := keep h.l (h.ul u hmem).symm h.lb, b := ?_, lr := ?_, br := ?_, bl := by simpa using h.bl, lB := h.lB, bB := h.bB, lb := h.lb, vB := h.vB, vl := h.vl, vb := h.vb, uB := ?_, ul := ?_, ub := ?_, vu := ?_, uu := ?_ }
  · rw [grown_set' hg B h.lt (fun e => h.uB u hmem e.symm) (fun e => h.bB (by rw [e]; rfl))]
    exact h.box
  · exact OwnS.put1 (h.b.kept hg (h.ub u hmem).symm.none') i u'
  · intro k v x hv hx
    exact keep (h.lr k v x hv hx) (h.vu v (List.mem_of_getElem? hv) u hmem) (h.vb v (List.mem_of_getElem? hv))
  · intro j a y ha hy
    by_cases hj : j = i
    · subst hj
      rw [List.getElem?_set_self (by omega)] at ha hy
      cases ha
      cases hy
      exact hu.kept hs hug.none'
    · rw [List.getElem?_set_ne (Ne.symm hj)] at ha hy
      exact keep (h.br j a y ha hy) (h.uu j i a u hj ha hui) (h.ub a (List.mem_of_getElem? ha))
  · intro x hx
    rcases huset x hx with h1 | rfl
    · exact h.uB x h1
    · exact hn.ne (h.uB u hmem) h.lt
  · intro x hx
    rcases huset x hx with h1 | rfl
    · exact h.ul x h1
    · exact (hn.off (h.ul u hmem).symm h.lblk).symm
  · intro x hx
    rcases huset x hx with h1 | rfl
    · exact h.ub x h1
    · exact hug
  · intro v hv x hx
    rcases huset x hx with h1 | rfl
    · exact h.vu v hv x h1
    · exact hn.off (h.vu v hv u hmem) (h.vblk v hv)
  · intro j j' a a' hjj ha ha'
    by_cases hj : j = i
    · subst hj
      rw [List.getElem?_set_self (by omega)] at ha
      cases ha
      rw [List.getElem?_set_ne hjj] at ha'
      exact (hn.off (h.uu j' j a' u (Ne.symm hjj) ha' hui) (h.ublk a' (List.mem_of_getElem? ha'))).symm
    · rw [List.getElem?_set_ne (Ne.symm hj)] at ha
      by_cases hj' : j' = i
      · subst hj'
        rw [List.getElem?_set_self (by omega)] at ha'
        cases ha'
        exact hn.off (h.uu j j' a u hjj ha hui) (h.ublk a (List.mem_of_getElem? ha))
      · rw [List.getElem?_set_ne (Ne.symm hj')] at ha'
        exact h.uu j j' a a' hjj ha ha'
/-- A state more: appended, and stored. -/
theorem list_add {w' : World} {lv' v : Value} {x : List Int} (h : BkO w base B lv bv vs us ls bs) (hg : w.grownBy w' lv.ownBlock) (hl : OwnS w' base 1 lv' (ls.length + 1) (vs ++ [v])) (hn : New w.heap.size lv lv')
    (hv : OwnS w base 1 v x.length (ints x)) (hvB : v.ownBlock ≠ some B) (hvl : Off v lv) (hvb : Off v bv) (hvu : ∀ u ∈ us, Off v u) : BkO (w'.setCell ⟨B, 0, none⟩ lv') base B lv' bv (vs ++ [v]) us (ls ++ [x]) bs := by
  have hs := grown_set w' B 0 lv'
  have keep : ∀ {a : Value} {n : Nat} {xs : List Value}, OwnS w base 1 a n xs → Off a lv → a.ownBlock ≠ some B → OwnS (w'.setCell ⟨B, 0, none⟩ lv') base 1 a n xs := fun ha ho hb => (ha.kept hg ho.none').kept hs (by
    cases hk : Value.ownBlock _ with
    | none => exact .inl rfl
    | some k => exact .inr (fun e => hb (by rw [hk]; exact e)))
  have hl'B : lv'.ownBlock ≠ some B := hn.ne h.lB h.lt
  have hvmem : ∀ a ∈ vs ++ [v], a ∈ vs ∨ a = v := fun a ha => by simpa using ha
  have hboxw : w'.heap[B]? = some (.cells #[lv, bv] 60 (0, 0)) := (hg.block B h.lt (fun e => h.lB e.symm)).trans h.box
  refine { box := by rw [cells_set hboxw]; rfl, hB := h.hB, l := ?_, b := keep h.b h.lb.symm h.bB, lr := ?_, br := ?_, bl := h.bl, lB := hl'B, bB := h.bB, lb := (hn.off h.lb.symm h.bblk).symm, vB := ?_, vl := ?_, vb := ?_, uB := h.uB, ul := fun u hu => hn.off (h.ul u hu) (h.ublk u hu), ub := h.ub, vu := ?_, uu := h.uu }
  · rw [List.length_append]
    refine hl.kept hs ?_
    cases hk : lv'.ownBlock with
    | none => exact .inl rfl
    | some k => exact .inr (fun e => hl'B (by rw [hk]; exact e))
  · intro k a z ha hz
    have hvl' := h.vlen
    by_cases hk : k < vs.length
    · rw [List.getElem?_append_left hk] at ha
      rw [List.getElem?_append_left (by omega)] at hz
      exact keep (h.lr k a z ha hz) (h.vl a (List.mem_of_getElem? ha)) (h.vB a (List.mem_of_getElem? ha))
    · have hkl : k = vs.length := by
        have := (List.getElem?_eq_some_iff.1 ha).1
        simp at this
        omega
      subst hkl
      rw [List.getElem?_append_right (Nat.le_refl _), Nat.sub_self] at ha
      rw [hvl', List.getElem?_append_right (Nat.le_refl _), Nat.sub_self] at hz
      cases ha
      cases hz
      exact keep hv hvl hvB
  · intro k a z ha hz
    exact keep (h.br k a z ha hz) (h.ul a (List.mem_of_getElem? ha)) (h.uB a (List.mem_of_getElem? ha))
  · intro a ha
    rcases hvmem a ha with h1 | rfl
    · exact h.vB a h1
    · exact hvB
  · intro a ha
    rcases hvmem a ha with h1 | rfl
    · exact hn.off (h.vl a h1) (h.vblk a h1)
    · exact hn.off hvl (fun k hk => (hv.blk k hk).2)
  · intro a ha
    rcases hvmem a ha with h1 | rfl
    · exact h.vb a h1
    · exact hvb
  · intro a ha u hu
    rcases hvmem a ha with h1 | rfl
    · exact h.vu a h1 u hu
    · exact hvu u hu
end BkO
end Go.Proofs.Ytmpgjnindbklaaa
namespace Go.Proofs.Ytmpgjnindbklaaa
open Go.RowKit BA Ex

/-- What a call leaves of the rest: all blocks that are not the book's stand; the book's blocks are old ones or new. -/
structure Fr (w w' : World) (F F' : Nat → Prop) : Prop where
  os : w'.os = w.os
  tape : w'.tape = w.tape
  output : w'.output = w.output
  size : w.heap.size ≤ w'.heap.size
  block : ∀ k, k < w.heap.size → ¬ F k → w'.heap[k]? = w.heap[k]?
  fp : ∀ k, F' k → F k ∨ w.heap.size ≤ k
theorem Fr.of_below {w w' : World} {F : Nat → Prop} (h : Below w.heap.size w w') : Fr w w' F F := ⟨h.os, h.tape, h.output, h.size, fun k hk _ => h.block k hk, fun _ hk => .inl hk⟩

theorem reads_cell1' (w : World) (u : Value) (t : TypeId) : Reads (w.alloc (.cells #[u] t (0, 0))) (.slice (some ⟨w.heap.size, 0, none⟩) 1 1) [u] :=
  .inr ⟨by simp, w.heap.size, 0, 1, rfl, by simp, by decide, fun i x hx => by have := cell_new0 w u t i x hx; rw [Addr.add_lit] at this; exact this⟩

theorem any_shape' {w : World} {base n : Nat} {v : Value} {xs : List Value} (h : OwnS w base 1 v n xs) : ∃ a m c, v = .slice a m c := let ⟨a, c, hv⟩ := h.reads.shape; ⟨a, _, c, hv⟩
theorem own_cell {w : World} {base n g cap : Nat} {xs : List Value} (h : OwnS w base 1 (.slice (some ⟨g, 0, none⟩) n cap) n xs) {i : Nat} (hi : i < n) : (∃ c, w.cell? ⟨g, i, none⟩ = some c) ∧ w.frozen? ⟨g, i, none⟩ = false := by
  have hl := h.len
  obtain ⟨te, h⟩ := h
  have h1 := h.cells (g := g) rfl i (xs.getD i undef) (by simp [List.getD_eq_getElem?_getD, show i < xs.length by omega])
  rw [Addr.add_lit] at h1
  refine ⟨⟨_, by simpa using h1⟩, ?_⟩
  rcases h.2 with ⟨hh, _⟩ | ⟨g', cap', cur, hv, hg, hb, _⟩
  · cases hh
  · cases hv
    simp [World.frozen?, hb]
theorem slice_one' (ra : Option Addr) (m rc : Nat) : ∀ u ∈ [Value.slice ra m rc], u.oneCell' = true := by
  intro u hu
  simp only [List.mem_singleton] at hu
  subst hu
  rfl
/-- What is in the buckets, one state more. -/
theorem cont_add {ls bs : List (List Int)} {x y : List Int} {i : Nat} (hc : ∀ (h : Nat) (y : List Int), bs[h]? = some y → ∀ i : Int, i ∈ y ↔ (0 ≤ i ∧ i < (ls.length : Int) ∧ hashF (ls.getD i.toNat []) = h)) (hi : hashF x = i) (hb : bs[i]? = some y) :
    ∀ (h : Nat) (y' : List Int), (bs.set i (y ++ [(ls.length : Int)]))[h]? = some y' → ∀ z : Int, z ∈ y' ↔ (0 ≤ z ∧ z < ((ls ++ [x]).length : Int) ∧ hashF ((ls ++ [x]).getD z.toNat []) = h) := by
  intro h y' hy z
  have hil : i < bs.length := (List.getElem?_eq_some_iff.1 hb).1
  have hold : ∀ t : Nat, t < ls.length → (ls ++ [x]).getD t [] = ls.getD t [] := fun t ht => by simp [List.getD_eq_getElem?_getD, List.getElem?_append_left ht]
  have hnew : (ls ++ [x]).getD ls.length [] = x := by simp [List.getD_eq_getElem?_getD]
  have hlen : ((ls ++ [x]).length : Int) = (ls.length : Int) + 1 := by simp
  rw [hlen]
  by_cases hh : h = i
  · subst hh
    rw [List.getElem?_set_self hil] at hy
    cases hy
    rw [List.mem_append, List.mem_singleton, hc h y hb z]
    constructor
    · rintro (⟨h0, h1, h2⟩ | rfl)
      · exact ⟨h0, by omega, by rw [hold _ (by omega)]; exact h2⟩
      · exact ⟨by omega, by omega, by rw [Int.toNat_natCast, hnew]; exact hi⟩
    · rintro ⟨h0, h1, h2⟩
      by_cases hz : z < (ls.length : Int)
      · exact .inl ⟨h0, hz, by rw [hold _ (by omega)] at h2; exact h2⟩
      · exact .inr (by omega)
  · rw [List.getElem?_set_ne (Ne.symm hh)] at hy
    rw [hc h y' hy z]
    constructor
    · rintro ⟨h0, h1, h2⟩
      exact ⟨h0, by omega, by rw [hold _ (by omega)]; exact h2⟩
    · rintro ⟨h0, h1, h2⟩
      by_cases hz : z < (ls.length : Int)
      · exact ⟨h0, hz, by rw [hold _ (by omega)] at h2; exact h2⟩
      · have hzl : z.toNat = ls.length := by omega
        rw [hzl, hnew, hi] at h2
        exact absurd h2.symm hh

set_option maxRecDepth 100000 in
set_option maxHeartbeats 4000000 in
theorem more_walk {base B m : Nat} {lv bv v : Value} {vs us : List Value} {ls bs : List (List Int)} {x : List Int} (w : World) (h : Bk w base B lv bv vs us ls bs m) (hx : x.length = m) (hv : OwnS w base 1 v x.length (ints x)) (hvB : v.ownBlock ≠ some B) (hvl : Off v lv) (hvb : Off v bv) (hvu : ∀ u ∈ us, Off v u)
    (hl : ls.length ≤ 100000) (hm : m ≤ 1000) (hbw : base ≤ w.heap.size) :
    Calls Try.prog 46 #[.pointer (some ⟨B, 0, none⟩), v] w fun e w' =>
      (x ∈ ls ∧ e = .returned (.bool false) ∧ Below w.heap.size w w') ∨
      (x ∉ ls ∧ e = .returned (.bool true) ∧ ∃ lv' us' bs', Bk w' base B lv' bv (vs ++ [v]) us' (ls ++ [x]) bs' m ∧ Fr w w' (Fp B lv bv us) (Fp B lv' bv us')) := by
  have hi : Try.prog.info? 3 = some Try.t3 := by kernel_rfl
  have HI := Lib.hid hi
  have hj : Try.prog.info? 22 = some Try.t22 := by kernel_rfl
  have HJ := Lib.hid hj
  clear hi hj
  obtain ⟨va0, vc0, hve0⟩ := ints_shape (OwnS.reads hv)
  subst hve0
  have H := Lib.hid h
  have HV := Lib.hid hv
  have HVR := Lib.hid (OwnS.reads hv)
  have HVB := Lib.hid hvB
  have HVL := Lib.hid hvl
  have HVb := Lib.hid hvb
  have HVU := Lib.hid hvu
  have HX := Lib.hid hx
  clear h hv hvB hvl hvb hvu hx
  have hlt := hashF_lt x
  generalize hhi : hashF x = i at hlt
  have HH := Lib.hid hhi
  clear hhi
  go_enter Try.func46, Try.ntmps46
  go_wp2_with fail
  refine (hash_walk _ x w HVR.out (by rw [HX.out]; omega)).mono ?_
  rintro e w1 ⟨rfl, rfl⟩
  rw [HH.out]
  obtain ⟨gb, capb, ua, uc, rfl, hue, hcb, hfb, hown, hui, hbi⟩ := H.out.own.bucket hlt
  have hycont := H.out.cont i _ hbi
  have hyshort := H.out.short _ (List.mem_of_getElem? hbi)
  generalize hy : bs.getD i [] = y at hue hown hbi hycont hyshort
  generalize hu : us.getD i undef = u at hue hcb hown hui
  subst hue
  have HOWN := Lib.hid hown
  have HYC := Lib.hid hycont
  have HUI := Lib.hid hui
  have HBI := Lib.hid hbi
  have HY := Lib.hid hy
  have HU := Lib.hid hu
  clear hown hycont hui hbi hy hu
  go_wp2_with fail
  go_loopw [6] (fun jv wr => ∃ j : Nat, j ≤ y.length ∧ jv = .int .i64 j ∧ Below w1.heap.size w1 wr ∧ ∀ t, t < j → ls.getD (y.getD t 0).toNat [] ≠ x) (fun jv _ => y.length - (intOf jv).toNat)
  case atStart => exact ⟨0, by omega, rfl, Below.refl _ _, fun t ht => by omega⟩
  case round =>
    obtain ⟨j, hj, rfl, hB, hA⟩ := hrel
    have hB1 := H.out.own.more hB
    have x0 := hB1.c0
    have x1 := hB1.c1
    have x2 := cell_keep hB hcb
    have hig : (i : Int) < 4096 := by omega
    by_cases hlt2 : j < y.length
    · have hyr := reads_kept (OwnS.reads HOWN.out) hB
      obtain ⟨yb, yo, yc, e, _⟩ := ints_form hyr (by omega)
      cases e
      have x3 := ints_at hyr hlt2
      have hmem : y.getD j 0 ∈ y := by
        have e : y.getD j 0 = y[j] := by simp [List.getD_eq_getElem?_getD, hlt2]
        rw [e]; exact List.getElem_mem hlt2
      obtain ⟨hy0, hyl, _⟩ := (HYC.out _).1 hmem
      generalize hyj : y.getD j 0 = z at x3 hy0 hyl
      have HYJ := Lib.hid hyj
      clear hyj hmem
      obtain ⟨n, rfl⟩ := Int.eq_ofNat_of_zero_le hy0
      have hnl : n < ls.length := by omega
      obtain ⟨lb, capl, va, vc, rfl, hve, hcl, hvr⟩ := hB1.row hnl
      have hml := H.out.len (ls.getD n []) (List.mem_of_getElem? (by simp [List.getD_eq_getElem?_getD, hnl] : ls[n]? = some (ls.getD n [])))
      have hvr2 := reads_kept HVR.out hB
      rw [hml] at hve
      generalize hqq : ls.getD n [] = q at hvr hml
      have HQQ := Lib.hid hqq
      clear hqq
      generalize vs.getD n undef = vn at hve hcl hvr
      subst hve
      have HB := Lib.hid hB
      have HA := Lib.hid hA
      have HVN := Lib.hid hvr
      have HVR2 := Lib.hid hvr2
      have HML := Lib.hid hml
      have hnl2 : ((n : Nat) : Int) < (ls.length : Int) := by omega
      have hjl : (j : Int) < (y.length : Int) := by omega
      clear hB hB1 hA hyr hvr hvr2 hml
      go_wp2_with fail
      go_still_tail 17, (by kernel_rfl)
      change wpList _ _ _ _ _ wr.drew
      go_wp2_with fail
      refine (rsame_walk _ _ q x wr.drew (reads_kept HVN.out (Below.refl _ _).drew) (reads_kept HVR2.out (Below.refl _ _).drew) (by rw [HML.out, HX.out]) (by rw [HML.out]; omega)).mono ?_
      rintro e w9 ⟨rfl, hb9⟩
      have HB9 := Lib.hid (HB.out.drew.trans (hb9.mono HB.out.size))
      by_cases he : q = x
      · have hxm : x ∈ ls := by
          rw [← he, ← HQQ.out]
          exact List.mem_of_getElem? (by simp [List.getD_eq_getElem?_getD, hnl] : ls[n]? = some (ls.getD n []))
        rw [decide_eq_true he]
        have HXM := Lib.hid hxm
        clear he hxm
        go_wp2
        go_ret
        exact .inl ⟨HXM.out, rfl, HB9.out⟩
      · have hA2 : ∀ t, t < j + 1 → ls.getD (y.getD t 0).toNat [] ≠ x := fun t ht => by
          by_cases htj : t = j
          · subst htj; rw [HYJ.out, Int.toNat_natCast, HQQ.out]; exact he
          · exact HA.out t (by omega)
        rw [decide_eq_false he]
        have HA2 := Lib.hid hA2
        clear he hA2
        go_wp2
        go_roundw
        case rel => exact ⟨j + 1, by omega, by go_num, HB9.out, HA2.out⟩
        case measure => simp [intOf]; omega
    · obtain rfl : j = y.length := by omega
      have hxn : x ∉ ls := fun hmem => by
        obtain ⟨n, hn, e⟩ := List.getElem_of_mem hmem
        have eg : ls.getD n [] = x := by simp [List.getD_eq_getElem?_getD, hn, e]
        have hin := (HYC.out (n : Int)).2 ⟨by omega, by omega, by rw [Int.toNat_natCast, eg]; exact HH.out⟩
        obtain ⟨t, ht, et⟩ := List.getElem_of_mem hin
        have et' : y.getD t 0 = (n : Int) := by simp [List.getD_eq_getElem?_getD, ht, et]
        exact hA t ht (by rw [et', Int.toNat_natCast]; exact eg)
      have hown1 := OwnS.below HOWN.out hB
      have hal : Below wr.heap.size wr (wr.drew.alloc (.cells #[.int .i64 (ls.length : Int)] 3 (0, 0))) := ((Below.refl _ _).drew).alloc (Nat.le_refl _) _
      have hown2 := OwnS.below hown1 hal
      have hrd := reads_cell1' wr.drew (.int .i64 (ls.length : Int)) 3
      have n1 : y.length + 1 ≤ maxLen := by unfold maxLen; omega
      have n2 : (y.length + 1) * 8 ≤ 140737488355328 := by omega
      have n3 : base ≤ (wr.drew.alloc (.cells #[.int .i64 (ls.length : Int)] 3 (0, 0))).heap.size := by have := hB.size; have := hal.size; omega
      have f2 : wr.frozen? ⟨gb, i, none⟩ = false := by
        obtain ⟨_, _, _, _, e, _, _, hf, _⟩ := hB1.bucket hlt
        cases e
        exact hf
      have HXN := Lib.hid hxn
      have HB := Lib.hid hB
      have HB1 := Lib.hid hB1
      have HAL := Lib.hid hal
      have HO2 := Lib.hid hown2
      have HRD := Lib.hid hrd
      have N1 := Lib.hid n1
      have N2 := Lib.hid n2
      have N3 := Lib.hid n3
      clear hxn hB hB1 hal hown1 hown2 hrd n1 n2 n3 hA
      obtain ⟨la, lc, hle⟩ := (OwnS.reads HB1.out.l).shape
      have hvl1 := HB1.out.vlen
      rw [hvl1] at hle
      subst hle
      clear hvl1
      --[MID
      have hfin : ∀ (u' : Value) (w2 : World), OwnS w2 base 1 u' (y.length + 1) (ints y ++ [.int .i64 (ls.length : Int)]) → (wr.drew.alloc (.cells #[.int .i64 (ls.length : Int)] 3 (0, 0))).grownBy w2 (Value.slice ua y.length uc).ownBlock → New (wr.drew.alloc (.cells #[.int .i64 (ls.length : Int)] 3 (0, 0))).heap.size (.slice ua y.length uc) u' →
          (∃ c, w2.cell? ⟨gb, i, none⟩ = some c) ∧ w2.frozen? ⟨gb, i, none⟩ = false ∧ BkO (w2.setCell ⟨gb, i, none⟩ u') base B (.slice la ls.length lc) (.slice (some ⟨gb, 0, none⟩) 4096 capb) vs (us.set i u') ls (bs.set i (y ++ [(ls.length : Int)])) ∧ w2.cell? ⟨B, 0, none⟩ = some (.slice la ls.length lc) ∧ w2.cell? ⟨B, 1, none⟩ = some (.slice (some ⟨gb, 0, none⟩) 4096 capb) := by
        intro u' w2 h1 h2 h3
        have hb2 := HB1.out.more HAL.out
        have hmem : Value.slice ua y.length uc ∈ us := List.mem_of_getElem? HUI.out
        have hob := hb2.b.kept h2 (hb2.ub _ hmem).symm.none'
        obtain ⟨c1, c2⟩ := own_cell hob hlt
        have hbx := (h2.block B hb2.lt (fun e => hb2.uB _ hmem e.symm)).trans hb2.box
        exact ⟨c1, c2, hb2.bucket_add hlt (by rw [HU.out]; exact h2) (by rw [List.length_append, ints_append]; exact h1) (by rw [HU.out]; exact h3), by simp [World.cell?, hbx], by simp [World.cell?, hbx]⟩
      have HFIN := Lib.hid hfin
      have xa0 := cell_keep HAL.out x0
      have xa1 := cell_keep HAL.out x1
      have xa2 := cell_keep HAL.out x2
      have xb2 : (wr.alloc (.cells #[.int .i64 (ls.length : Int)] 3 (0, 0))).cell? ⟨gb, i, none⟩ = some (.slice ua y.length uc) := cell_keep ((Below.refl _ _).alloc (Nat.le_refl _) _) x2
      have xb3 : (wr.alloc (.cells #[.int .i64 (ls.length : Int)] 3 (0, 0))).drew.cell? ⟨gb, i, none⟩ = some (.slice ua y.length uc) := xb2
      clear hfin
      go_wp2_with fail
      go_cut [5] from 39 (fun s5 wx => s5 = .int .i64 i ∧ ∃ u' w2, BkO (w2.setCell ⟨gb, i, none⟩ u') base B (.slice la ls.length lc) (.slice (some ⟨gb, 0, none⟩) 4096 capb) vs (us.set i u') ls (bs.set i (y ++ [(ls.length : Int)])) ∧ Below wr.heap.size wr (wr.drew.alloc (.cells #[.int .i64 (ls.length : Int)] 3 (0, 0))) ∧ (wr.drew.alloc (.cells #[.int .i64 (ls.length : Int)] 3 (0, 0))).grownBy w2 (Value.slice ua y.length uc).ownBlock ∧ New (wr.drew.alloc (.cells #[.int .i64 (ls.length : Int)] 3 (0, 0))).heap.size (.slice ua y.length uc) u' ∧ wx = w2.setCell ⟨gb, i, none⟩ u')
      case first =>
        refine wp_region_noPanic ?_
        refine wp_region_held_drew (S := fun w' => w'.cell? ⟨B, 0, none⟩ = some (.slice la ls.length lc) ∧ w'.cell? ⟨B, 1, none⟩ = some (.slice (some ⟨gb, 0, none⟩) 4096 capb)) (by kernel_rfl) ?_ (fun hHeld => ?_)
        · exact ⟨x0, x1⟩
        refine wpAnyH_take (i := 0) (oi := { dst := some 39, op := _, type := _, pos := _, after := _, guard := none }) (v := ?_) rfl (by kernel_rfl) (by kernel_rfl) (by kernel_rfl) (fun _ _ _ h => h) (Or.inl ⟨by rfl, ?_⟩) (by assumption) ?_
        rotate_left
        · (intro w hSw; (try dsimp only at hSw); go_simp; try with_reducible rfl)
        simp only [Act.put, List.setIfInBounds_toArray, List.set_cons_zero, List.set_cons_succ]
        refine wpAnyH_take (i := 1) (oi := { dst := some 40, op := _, type := _, pos := _, after := _, guard := none }) (v := ?_) rfl (by kernel_rfl) (by kernel_rfl) (by kernel_rfl) (fun _ _ _ h => h) (Or.inl ⟨by rfl, ?_⟩) (by assumption) ?_
        rotate_left
        · (intro w hSw; (try dsimp only at hSw); go_simp; try with_reducible rfl)
        simp only [Act.put, List.setIfInBounds_toArray, List.set_cons_zero, List.set_cons_succ]
        refine wpAnyH_take (i := 2) (oi := { dst := some 41, op := _, type := _, pos := _, after := _, guard := none }) (v := ?_) rfl (by kernel_rfl) (by kernel_rfl) (by kernel_rfl) (fun _ _ _ h => h) (Or.inl ⟨by rfl, ?_⟩) (by assumption) ?_
        rotate_left
        · (intro w hSw; (try dsimp only at hSw); go_simp; try with_reducible rfl)
        simp only [Act.put, List.setIfInBounds_toArray, List.set_cons_zero, List.set_cons_succ]
        refine wpAnyH_take (i := 3) (oi := { dst := some 42, op := _, type := _, pos := _, after := _, guard := none }) (v := ?_) rfl (by kernel_rfl) (by kernel_rfl) (by kernel_rfl) (fun _ _ _ h => h) (Or.inl ⟨by rfl, ?_⟩) (by assumption) ?_
        rotate_left
        · (intro w hSw; obtain ⟨q0, q1⟩ : w.cell? ⟨B, 0, none⟩ = some (.slice la ls.length lc) ∧ w.cell? ⟨B, 1, none⟩ = some (.slice (some ⟨gb, 0, none⟩) 4096 capb) := id hSw; clear hSw; go_simp; try with_reducible rfl)
        simp only [Act.put, List.setIfInBounds_toArray, List.set_cons_zero, List.set_cons_succ]
        refine wpAnyH_take (i := 4) (oi := { dst := some 43, op := _, type := _, pos := _, after := _, guard := none }) (v := ?_) rfl (by kernel_rfl) (by kernel_rfl) (by kernel_rfl) (fun _ _ _ h => h) (Or.inl ⟨by rfl, ?_⟩) (by assumption) ?_
        rotate_left
        · (intro w hSw; (try dsimp only at hSw); go_simp; try with_reducible rfl)
        simp only [Act.put, List.setIfInBounds_toArray, List.set_cons_zero, List.set_cons_succ]
        refine wpAnyH_take (i := 5) (oi := { dst := some 44, op := _, type := _, pos := _, after := _, guard := none }) (v := ?_) rfl (by kernel_rfl) (by kernel_rfl) (by kernel_rfl) (fun _ _ _ h => h) (Or.inl ⟨by rfl, ?_⟩) (by assumption) ?_
        rotate_left
        · (intro w hSw; (try dsimp only at hSw); go_simp; try with_reducible rfl)
        simp only [Act.put, List.setIfInBounds_toArray, List.set_cons_zero, List.set_cons_succ]
        refine wpAnyH_take (i := 6) (oi := { dst := some 45, op := _, type := _, pos := _, after := _, guard := none }) (v := ?_) rfl (by kernel_rfl) (by kernel_rfl) (by kernel_rfl) (fun _ _ _ h => h) (Or.inl ⟨by rfl, ?_⟩) (by assumption) ?_
        rotate_left
        · (intro w hSw; (try dsimp only at hSw); go_simp; try with_reducible rfl)
        simp only [Act.put, List.setIfInBounds_toArray, List.set_cons_zero, List.set_cons_succ]
        refine wpAnyH_take (i := 7) (oi := { dst := some 46, op := _, type := _, pos := _, after := _, guard := none }) (v := ?_) rfl (by kernel_rfl) (by kernel_rfl) (by kernel_rfl) (fun _ _ _ h => h) (Or.inl ⟨by rfl, ?_⟩) (by assumption) ?_
        rotate_left
        · (intro w hSw; (try dsimp only at hSw); go_simp; try with_reducible rfl)
        simp only [Act.put, List.setIfInBounds_toArray, List.set_cons_zero, List.set_cons_succ]
        refine wpAnyH_take (i := 8) (oi := { dst := some 47, op := _, type := _, pos := _, after := _, guard := none }) (v := ?_) rfl (by kernel_rfl) (by kernel_rfl) (by kernel_rfl) (fun _ _ _ h => h) (Or.inl ⟨by rfl, ?_⟩) (by assumption) ?_
        rotate_left
        · (intro w hSw; obtain ⟨q0, q1⟩ : w.cell? ⟨B, 0, none⟩ = some (.slice la ls.length lc) ∧ w.cell? ⟨B, 1, none⟩ = some (.slice (some ⟨gb, 0, none⟩) 4096 capb) := id hSw; clear hSw; go_simp; try with_reducible rfl)
        simp only [Act.put, List.setIfInBounds_toArray, List.set_cons_zero, List.set_cons_succ]
        refine wpAnyH_take (i := 9) (oi := { dst := some 48, op := _, type := _, pos := _, after := _, guard := none }) (v := ?_) rfl (by kernel_rfl) (by kernel_rfl) (by kernel_rfl) (fun _ _ _ h => h) (Or.inl ⟨by rfl, ?_⟩) (by assumption) ?_
        rotate_left
        · (intro w hSw; (try dsimp only at hSw); go_simp; try with_reducible rfl)
        simp only [Act.put, List.setIfInBounds_toArray, List.set_cons_zero, List.set_cons_succ]
        refine wpAnyH_take (i := 10) (oi := { dst := some 49, op := _, type := _, pos := _, after := _, guard := none }) (v := ?_) rfl (by kernel_rfl) (by kernel_rfl) (by kernel_rfl) (fun _ _ _ h => h) (Or.inl ⟨by rfl, ?_⟩) (by assumption) ?_
        rotate_left
        · (intro w hSw; (try dsimp only at hSw); go_simp; try with_reducible rfl)
        simp only [Act.put, List.setIfInBounds_toArray, List.set_cons_zero, List.set_cons_succ]
        refine wpAnyH_take (i := 12) (oi := { dst := some 51, op := _, type := _, pos := _, after := _, guard := none }) (v := ?_) rfl (by kernel_rfl) (by kernel_rfl) (by kernel_rfl) (fun _ _ _ h => h) (Or.inl ⟨by rfl, ?_⟩) (by assumption) ?_
        rotate_left
        · (intro w hSw; (try dsimp only at hSw); go_simp; try with_reducible rfl)
        simp only [Act.put, List.setIfInBounds_toArray, List.set_cons_zero, List.set_cons_succ]
        refine wpAnyH_take (i := 13) (oi := { dst := some 52, op := _, type := _, pos := _, after := _, guard := none }) (v := ?_) rfl (by kernel_rfl) (by kernel_rfl) (by kernel_rfl) (fun _ _ _ h => h) (Or.inl ⟨by rfl, ?_⟩) (by assumption) ?_
        rotate_left
        · (intro w hSw; (try dsimp only at hSw); go_simp; try with_reducible rfl)
        simp only [Act.put, List.setIfInBounds_toArray, List.set_cons_zero, List.set_cons_succ]
        refine wpAnyH_take (i := 14) (oi := { dst := some 53, op := _, type := _, pos := _, after := _, guard := none }) (v := ?_) rfl (by kernel_rfl) (by kernel_rfl) (by kernel_rfl) (fun _ _ _ h => h) (Or.inl ⟨by rfl, ?_⟩) (by assumption) ?_
        rotate_left
        · (intro w hSw; (try dsimp only at hSw); go_simp; try with_reducible rfl)
        simp only [Act.put, List.setIfInBounds_toArray, List.set_cons_zero, List.set_cons_succ]
        refine wpAnyH_take (i := 15) (oi := { dst := some 54, op := _, type := _, pos := _, after := _, guard := none }) (v := ?_) rfl (by kernel_rfl) (by kernel_rfl) (by kernel_rfl) (fun _ _ _ h => h) (Or.inl ⟨by rfl, ?_⟩) (by assumption) ?_
        rotate_left
        · (intro w hSw; obtain ⟨q0, q1⟩ : w.cell? ⟨B, 0, none⟩ = some (.slice la ls.length lc) ∧ w.cell? ⟨B, 1, none⟩ = some (.slice (some ⟨gb, 0, none⟩) 4096 capb) := id hSw; clear hSw; go_simp; try with_reducible rfl)
        simp only [Act.put, List.setIfInBounds_toArray, List.set_cons_zero, List.set_cons_succ]
        refine wpAnyH_take (i := 16) (oi := { dst := some 55, op := _, type := _, pos := _, after := _, guard := none }) (v := ?_) rfl (by kernel_rfl) (by kernel_rfl) (by kernel_rfl) (fun _ _ _ h => h) (Or.inl ⟨by rfl, ?_⟩) (by assumption) ?_
        rotate_left
        · (intro w hSw; (try dsimp only at hSw); go_simp; try with_reducible rfl)
        simp only [Act.put, List.setIfInBounds_toArray, List.set_cons_zero, List.set_cons_succ]
        refine wpAnyH_ready (rs := [11, 17]) (by kernel_rfl) (by simp) ?_
        refine AllReadyH.cons (o := { dst := some 50, op := _, type := _, pos := _, after := _, guard := none }) rfl (fun K hK => ?_) ?_
        rotate_left
        · 
          refine AllReadyH.cons (o := { dst := some 56, op := _, type := _, pos := _, after := _, guard := none }) rfl (fun K hK => ?_) ?_
          rotate_left
          · exact AllReadyH.nil
          go_simp
          refine hK.out _ _ ?_ (fun hHeld' => ?_)
          · exact ⟨xa0, xa1⟩
          clear hHeld hK K
          have hHeld := hHeld'
          clear hHeld'
          try simp only [Act.put, List.setIfInBounds_toArray, List.set_cons_zero, List.set_cons_succ]
          refine wpAnyH_ready (rs := [11]) (by kernel_rfl) (by simp) ?_
          refine AllReadyH.cons (o := { dst := some 50, op := _, type := _, pos := _, after := _, guard := none }) rfl (fun K hK => ?_) ?_
          rotate_left
          · exact AllReadyH.nil
          go_simp
          refine hK.out _ _ ?_ (fun hHeld' => ?_)
          · exact ⟨xa0, xa1⟩
          clear hHeld hK K
          have hHeld := hHeld'
          clear hHeld'
          try simp only [Act.put, List.setIfInBounds_toArray, List.set_cons_zero, List.set_cons_succ]
          refine wpAnyH_ready (rs := [18]) (by kernel_rfl) (by simp) ?_
          refine AllReadyH.cons (o := { dst := some 57, op := _, type := _, pos := _, after := _, guard := none }) rfl (fun K hK => ?_) ?_
          rotate_left
          · exact AllReadyH.nil
          refine step_append_reads rfl (.tmp 50) (.tmp 56) 22 rfl base 3 Try.t3 (.int .i64 0) 8 Try.underlying22 HI.out rfl rfl rfl rfl (.slice ua y.length uc) y.length (ints y) rfl HO2.out (.slice (some ⟨wr.heap.size, 0, none⟩) 1 1) [.int .i64 (ls.length : Int)] rfl HRD.out (ints_one [(ls.length : Int)]) N1.out N2.out N3.out ?_
          intro u' w2 hu' hg2 hob2
          obtain ⟨qa, qn, qc, hqe⟩ := any_shape' hu'
          subst hqe
          obtain ⟨⟨cc, hcc⟩, hff, hB3, hp0, hp1⟩ := HFIN.out _ w2 hu' hg2 hob2
          refine hK.out _ _ ?_ (fun hHeld' => ?_)
          · exact ⟨hp0, hp1⟩
          clear hHeld hK K
          have hHeld := hHeld'
          clear hHeld'
          try simp only [Act.put, List.setIfInBounds_toArray, List.set_cons_zero, List.set_cons_succ]
          refine wpAnyH_take (i := 19) (oi := { dst := some 58, op := _, type := _, pos := _, after := _, guard := none }) (v := ?_) rfl (by kernel_rfl) (by kernel_rfl) (by kernel_rfl) (fun _ _ _ h => h) (Or.inl ⟨by rfl, ?_⟩) (by assumption) ?_
          rotate_left
          · (intro w hSw; (try dsimp only at hSw); go_simp; try with_reducible rfl)
          simp only [Act.put, List.setIfInBounds_toArray, List.set_cons_zero, List.set_cons_succ]
          refine wpAnyH_ready (rs := [20]) (by kernel_rfl) (by simp) ?_
          refine AllReadyH.cons (o := { dst := none, op := _, type := _, pos := _, after := _, guard := none }) rfl (fun K hK => ?_) ?_
          rotate_left
          · exact AllReadyH.nil
          go_simp
          refine hK.out _ _ ?_ (fun hHeld' => ?_)
          · exact ⟨hB3.c0, hB3.c1⟩
          clear hHeld hK K
          have hHeld := hHeld'
          clear hHeld'
          refine wpAnyH_done (by kernel_rfl) ?_ _
          refine NoPanic.normal ?_
          go_wp2_with fail
          go_meet
          exact ⟨rfl, _, w2, hB3, HAL.out, hg2, hob2, rfl⟩
        go_simp
        refine hK.out _ _ ?_ (fun hHeld' => ?_)
        · exact ⟨x0, x1⟩
        clear hHeld hK K
        have hHeld := hHeld'
        clear hHeld'
        try simp only [Act.put, List.setIfInBounds_toArray, List.set_cons_zero, List.set_cons_succ]
        refine wpAnyH_ready (rs := [17]) (by kernel_rfl) (by simp) ?_
        refine AllReadyH.cons (o := { dst := some 56, op := _, type := _, pos := _, after := _, guard := none }) rfl (fun K hK => ?_) ?_
        rotate_left
        · exact AllReadyH.nil
        go_simp
        refine hK.out _ _ ?_ (fun hHeld' => ?_)
        · exact ⟨xa0, xa1⟩
        clear hHeld hK K
        have hHeld := hHeld'
        clear hHeld'
        try simp only [Act.put, List.setIfInBounds_toArray, List.set_cons_zero, List.set_cons_succ]
        refine wpAnyH_ready (rs := [18]) (by kernel_rfl) (by simp) ?_
        refine AllReadyH.cons (o := { dst := some 57, op := _, type := _, pos := _, after := _, guard := none }) rfl (fun K hK => ?_) ?_
        rotate_left
        · exact AllReadyH.nil
        refine step_append_reads rfl (.tmp 50) (.tmp 56) 22 rfl base 3 Try.t3 (.int .i64 0) 8 Try.underlying22 HI.out rfl rfl rfl rfl (.slice ua y.length uc) y.length (ints y) rfl HO2.out (.slice (some ⟨wr.heap.size, 0, none⟩) 1 1) [.int .i64 (ls.length : Int)] rfl HRD.out (ints_one [(ls.length : Int)]) N1.out N2.out N3.out ?_
        intro u' w2 hu' hg2 hob2
        obtain ⟨qa, qn, qc, hqe⟩ := any_shape' hu'
        subst hqe
        obtain ⟨⟨cc, hcc⟩, hff, hB3, hp0, hp1⟩ := HFIN.out _ w2 hu' hg2 hob2
        refine hK.out _ _ ?_ (fun hHeld' => ?_)
        · exact ⟨hp0, hp1⟩
        clear hHeld hK K
        have hHeld := hHeld'
        clear hHeld'
        try simp only [Act.put, List.setIfInBounds_toArray, List.set_cons_zero, List.set_cons_succ]
        refine wpAnyH_take (i := 19) (oi := { dst := some 58, op := _, type := _, pos := _, after := _, guard := none }) (v := ?_) rfl (by kernel_rfl) (by kernel_rfl) (by kernel_rfl) (fun _ _ _ h => h) (Or.inl ⟨by rfl, ?_⟩) (by assumption) ?_
        rotate_left
        · (intro w hSw; (try dsimp only at hSw); go_simp; try with_reducible rfl)
        simp only [Act.put, List.setIfInBounds_toArray, List.set_cons_zero, List.set_cons_succ]
        refine wpAnyH_ready (rs := [20]) (by kernel_rfl) (by simp) ?_
        refine AllReadyH.cons (o := { dst := none, op := _, type := _, pos := _, after := _, guard := none }) rfl (fun K hK => ?_) ?_
        rotate_left
        · exact AllReadyH.nil
        go_simp
        refine hK.out _ _ ?_ (fun hHeld' => ?_)
        · exact ⟨hB3.c0, hB3.c1⟩
        clear hHeld hK K
        have hHeld := hHeld'
        clear hHeld'
        refine wpAnyH_done (by kernel_rfl) ?_ _
        refine NoPanic.normal ?_
        go_wp2_with fail
        go_meet
        exact ⟨rfl, _, w2, hB3, HAL.out, hg2, hob2, rfl⟩
      case rest =>
        obtain ⟨rfl, u', w2, hB3, hal, hg2, hn2, rfl⟩ := hcut
        have hmem : Value.slice ua y.length uc ∈ us := List.mem_of_getElem? HUI.out
        have s2 := grown_set w2 gb i u'
        have hv3 := ((OwnS.below (OwnS.below HV.out HB.out) hal).kept hg2 (HVU.out _ hmem).none').kept s2 HVb.out.none'
        have hsz : w1.heap.size ≤ (wr.drew.alloc (.cells #[.int .i64 (ls.length : Int)] 3 (0, 0))).heap.size := Nat.le_trans HB.out.size hal.size
        have hsz3 : w1.heap.size ≤ (w2.setCell ⟨gb, i, none⟩ u').heap.size := Nat.le_trans (Nat.le_trans hsz hg2.size) s2.size
        have hfr : ∀ k, k < w1.heap.size → ¬ Fp B (Value.slice la ls.length lc) (Value.slice (some ⟨gb, 0, none⟩) 4096 capb) us k → (w2.setCell ⟨gb, i, none⟩ u').heap[k]? = w1.heap[k]? := fun k hk hnf => by
          have h1 : some k ≠ (Value.slice ua y.length uc).ownBlock := fun e => hnf (.inr (.inr (.inr ⟨_, hmem, e.symm⟩)))
          have h2 : some k ≠ some gb := fun e => hnf (.inr (.inr (.inl (by cases e; rfl))))
          exact (s2.block k (by have := hg2.size; omega) h2).trans (((hg2.block k (by omega) h1).trans (hal.block k (by have := HB.out.size; omega))).trans (HB.out.block k hk))
        have hos : (w2.setCell ⟨gb, i, none⟩ u').os = w1.os ∧ (w2.setCell ⟨gb, i, none⟩ u').tape = w1.tape ∧ (w2.setCell ⟨gb, i, none⟩ u').output = w1.output := ⟨s2.os.trans (hg2.os.trans (hal.os.trans HB.out.os)), s2.tape.trans (hg2.tape.trans (hal.tape.trans HB.out.tape)), s2.output.trans (hg2.output.trans (hal.output.trans HB.out.output))⟩
        have hvw : ∀ k, (Value.slice va0 x.length vc0).ownBlock = some k → k < (wr.drew.alloc (.cells #[.int .i64 (ls.length : Int)] 3 (0, 0))).heap.size := fun k hk => Nat.lt_of_lt_of_le (HV.out.blk k hk).2 hsz
        have hvu' : ∀ z ∈ us.set i u', Off (Value.slice va0 x.length vc0) z := fun z hz => by
          rcases List.mem_or_eq_of_mem_set hz with h1 | rfl
          · exact HVU.out z h1
          · exact hn2.off (HVU.out _ hmem) hvw
        have hfp : ∀ z ∈ us.set i u', ∀ k, z.ownBlock = some k → Fp B (Value.slice la ls.length lc) (Value.slice (some ⟨gb, 0, none⟩) 4096 capb) us k ∨ w1.heap.size ≤ k := fun z hz k hk => by
          rcases List.mem_or_eq_of_mem_set hz with h1 | rfl
          · exact .inl (.inr (.inr (.inr ⟨z, h1, hk⟩)))
          · rcases hn2 with h2 | h2 | ⟨t, h2, ht⟩
            · exact .inl (.inr (.inr (.inr ⟨_, hmem, by rw [← h2]; exact hk⟩)))
            · rw [h2] at hk; cases hk
            · rw [h2] at hk; cases hk; exact .inr (by omega)
        have HV3 := Lib.hid hv3
        have HFR := Lib.hid hfr
        have HOS := Lib.hid hos
        have HVU2 := Lib.hid hvu'
        have HFP := Lib.hid hfp
        generalize w2.setCell ⟨gb, i, none⟩ u' = w3 at hB3 HV3 HFR HOS hsz3 ⊢
        have y0 := hB3.c0
        have hal4 : Below w3.heap.size w3 (w3.alloc (.cells #[(Value.slice va0 x.length vc0)] 22 (0, 0))) := (Below.refl _ _).alloc (Nat.le_refl _) _
        have hB4 := hB3.more hal4
        have HO4 := Lib.hid hB4.l
        have HRD4 := Lib.hid (reads_cell1' w3 (Value.slice va0 x.length vc0) 22)
        have n1 : ls.length + 1 ≤ maxLen := by unfold maxLen; omega
        have n2 : (ls.length + 1) * 24 ≤ 140737488355328 := by omega
        have n3 : base ≤ (w3.alloc (.cells #[(Value.slice va0 x.length vc0)] 22 (0, 0))).heap.size := by have := hal4.size; omega
        have M1 := Lib.hid n1
        have M2 := Lib.hid n2
        have M3 := Lib.hid n3
        have HB4 := Lib.hid hB4
        have HAL4 := Lib.hid hal4
        clear hv3 hfr hos hvu' hfp hal hg2 hn2 s2 hsz hvw n1 n2 n3 hB4 hB3 hal4 x0 x1 x2 xa0 xa1 xa2 xb2 xb3 HFIN HAL HB1 hmem
        go_wp2_with (at_builtin; refine wpList_append_reads _ rfl (.tmp 63) (.tmp 65) 38 rfl base 22 Try.t22 (.slice none 0 0) 24 Try.underlying38 HJ.out rfl rfl rfl rfl (Value.slice la ls.length lc) ls.length vs rfl HO4.out (.slice (some ⟨w3.heap.size, 0, none⟩) 1 1) [(Value.slice va0 x.length vc0)] rfl HRD4.out (slice_one' va0 x.length vc0) M1.out M2.out M3.out ?_; intro lv' w5 hl' hg5 hob5; obtain ⟨ka, kn, kc, hke⟩ := any_shape' hl'; subst hke; have hbx5 := (hg5.block B HB4.out.lt (fun e => HB4.out.lB e.symm)).trans HB4.out.box; have z0 : w5.cell? ⟨B, 0, none⟩ = some (Value.slice la ls.length lc) := (by simp [World.cell?, hbx5]); have z1 : w5.frozen? ⟨B, 0, none⟩ = false := (by simp [World.frozen?, hbx5]); have HL5 := Lib.hid hl'; have HG5 := Lib.hid hg5; have HN5 := Lib.hid hob5; clear hl' hob5 hbx5)
        go_ret
        have hadd := HB4.out.list_add HG5.out HL5.out HN5.out (OwnS.below HV3.out HAL4.out) HVB.out HVL.out HVb.out HVU2.out
        have s5 := grown_set w5 B 0 (.slice ka kn kc)
        have hsz5 : w3.heap.size ≤ w5.heap.size := Nat.le_trans HAL4.out.size hg5.size
        refine .inr ⟨HXN.out, rfl, _, _, _, ⟨hadd, cont_add H.out.cont HH.out HBI.out, fun z hz => ?_, fun z hz => ?_⟩, ⟨s5.os.trans (hg5.os.trans (HAL4.out.os.trans HOS.out.1)), s5.tape.trans (hg5.tape.trans (HAL4.out.tape.trans HOS.out.2.1)), s5.output.trans (hg5.output.trans (HAL4.out.output.trans HOS.out.2.2)), Nat.le_trans (Nat.le_trans hsz3 hsz5) s5.size, fun k hk hnf => ?_, fun k hk => ?_⟩⟩
        · rcases List.mem_append.1 hz with h1 | h1
          · exact H.out.len z h1
          · simp only [List.mem_singleton] at h1; subst h1; exact HX.out
        · rw [List.length_append]
          rcases List.mem_or_eq_of_mem_set hz with h1 | rfl
          · have := H.out.short z h1; simp; omega
          · have := H.out.short y (List.mem_of_getElem? HBI.out); simp; omega
        · have h1 : some k ≠ (Value.slice la ls.length lc).ownBlock := fun e => hnf (.inr (.inl e.symm))
          have h2 : some k ≠ some B := fun e => hnf (.inl (by cases e; rfl))
          exact (s5.block k (by omega) h2).trans (((hg5.block k (by have := HAL4.out.size; omega) h1).trans (HAL4.out.block k (by omega))).trans (HFR.out k hk hnf))
        · rcases hk with h1 | h1 | h1 | ⟨z, hz, h1⟩
          · exact .inl (.inl h1)
          · rcases HN5.out with h2 | h2 | ⟨t, h2, ht⟩
            · exact .inl (.inr (.inl (by rw [← h2]; exact h1)))
            · rw [h2] at h1; cases h1
            · rw [h2] at h1; cases h1
              have := HAL4.out.size
              exact .inr (by omega)
          · exact .inl (.inr (.inr (.inl h1)))
          · exact HFP.out z hz k h1
      --MID]
end Go.Proofs.Ytmpgjnindbklaaa
