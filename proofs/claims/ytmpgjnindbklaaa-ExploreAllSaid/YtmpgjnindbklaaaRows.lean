/-
  No cell of these rows narrows 'for every input' (looked for: loops, veiled, ifaces, maps, wideKeys, modest, calm, conditions, laid).
  DERIVED. THE GIVEN ROWS OF THIS SEAT. 4 by the template 'for every input the law returns true; each argument reads behind the call as it read before'; 0 by the template 'total and deterministic' (their statements: YtmpgjnindbklaaaTotals.lean).
  GIVEN WITH THE SEED: the statements are not yours to turn. If you find one false, say at which input.
  Laid BY PROGRAM, IN A SANDBOX (cutbox-rows.mjs): the forced cells as the released guide's own fill.sh prints them over the translation efe344fba0d31f41… (all of the seat's roots in one cut). By AI agents, Wed Nov 11 2026. No macro, syntax, notation, axiom, sorry.
-/
import Derived.Test.YtmpgjnindbklaaaChecked
import GoSem.Claim
import GoSem.ClaimJoined
import GoSem.ClaimMapViews
import Derived.JoinedTies
import Derived.KernelRfl
namespace Go.Proofs.Ytmpgjnindbklaaa
/- THE CELL 'sum', in the pinned program and in every row, IS THE sha256 OF THE DUMP (.gsa) THAT YtmpgjnindbklaaaProg.lean LOADS. Nothing in Lean hashes anything: it is a label: what it is worth is what the hold of that sum in a sandbox is worth. -/
noncomputable def Try.pinned : Pinned := { name := "ytmpgjnindbklaaa", sum := "efe344fba0d31f41f50a289fb284e4aa910a5e75e9c15a751f02858e31eb5c68", checked := Try.checked }
namespace Rows
def none {H : Type} : Left H := { results := [], args := [] }

/-- 'skeinlaw27.ExploreAll': WHATEVER THE INPUT: true; the input reads as it did. -/
def exploreAllSpec : ChangeSpec := { name := "exploreAll", fn := fun _ => fun
  | [d] => { results := [.lit (.bool true)], args := [d] }
  | _ => none }
def exploreAllRow : OpenClaim := { program := "ytmpgjnindbklaaa", sum := "efe344fba0d31f41f50a289fb284e4aa910a5e75e9c15a751f02858e31eb5c68", func := "skein/skeinlaw27.ExploreAll", spec := "exploreAll", unfollowed := true, recurses := true, plainKeys := false, apart := false }
def ExploreAllSaid : Prop := exploreAllRow.holds Try.pinned (OpenSpec.ofChange exploreAllSpec)

/-- ITS FALSE NEIGHBOUR: 'it returns false'. Refute it at one input. -/
def exploreAllWrong : ChangeSpec := { name := "exploreAll", fn := fun _ => fun
  | [d] => { results := [.lit (.bool false)], args := [d] }
  | _ => none }
def ExploreAllWrongFalsely : Prop := exploreAllRow.holds Try.pinned (OpenSpec.ofChange exploreAllWrong)

/-- 'skeinlaw27.ExploreTurned': WHATEVER THE INPUT: true; the input reads as it did. -/
def exploreTurnedSpec : ChangeSpec := { name := "exploreTurned", fn := fun _ => fun
  | [d] => { results := [.lit (.bool true)], args := [d] }
  | _ => none }
def exploreTurnedRow : OpenClaim := { program := "ytmpgjnindbklaaa", sum := "efe344fba0d31f41f50a289fb284e4aa910a5e75e9c15a751f02858e31eb5c68", func := "skein/skeinlaw27.ExploreTurned", spec := "exploreTurned", unfollowed := true, recurses := true, plainKeys := false, apart := false }
def ExploreTurnedSaid : Prop := exploreTurnedRow.holds Try.pinned (OpenSpec.ofChange exploreTurnedSpec)

/-- ITS FALSE NEIGHBOUR: 'it returns false'. Refute it at one input. -/
def exploreTurnedWrong : ChangeSpec := { name := "exploreTurned", fn := fun _ => fun
  | [d] => { results := [.lit (.bool false)], args := [d] }
  | _ => none }
def ExploreTurnedWrongFalsely : Prop := exploreTurnedRow.holds Try.pinned (OpenSpec.ofChange exploreTurnedWrong)

/-- 'skeinlaw27.ExploreFollows': WHATEVER THE INPUT: true; the input reads as it did. -/
def exploreFollowsSpec : ChangeSpec := { name := "exploreFollows", fn := fun _ => fun
  | [d1, d2] => { results := [.lit (.bool true)], args := [d1, d2] }
  | _ => none }
def exploreFollowsRow : OpenClaim := { program := "ytmpgjnindbklaaa", sum := "efe344fba0d31f41f50a289fb284e4aa910a5e75e9c15a751f02858e31eb5c68", func := "skein/skeinlaw27.ExploreFollows", spec := "exploreFollows", unfollowed := true, recurses := true, plainKeys := false, apart := false }
def ExploreFollowsSaid : Prop := exploreFollowsRow.holds Try.pinned (OpenSpec.ofChange exploreFollowsSpec)

/-- ITS FALSE NEIGHBOUR: 'it returns false'. Refute it at one input. -/
def exploreFollowsWrong : ChangeSpec := { name := "exploreFollows", fn := fun _ => fun
  | [d1, d2] => { results := [.lit (.bool false)], args := [d1, d2] }
  | _ => none }
def ExploreFollowsWrongFalsely : Prop := exploreFollowsRow.holds Try.pinned (OpenSpec.ofChange exploreFollowsWrong)

/-- 'skeinlaw27.ExploreShows': WHATEVER THE INPUT: true; the input reads as it did. -/
def exploreShowsSpec : ChangeSpec := { name := "exploreShows", fn := fun _ => fun
  | [d1, d2] => { results := [.lit (.bool true)], args := [d1, d2] }
  | _ => none }
def exploreShowsRow : OpenClaim := { program := "ytmpgjnindbklaaa", sum := "efe344fba0d31f41f50a289fb284e4aa910a5e75e9c15a751f02858e31eb5c68", func := "skein/skeinlaw27.ExploreShows", spec := "exploreShows", unfollowed := true, recurses := true, plainKeys := false, apart := false }
def ExploreShowsSaid : Prop := exploreShowsRow.holds Try.pinned (OpenSpec.ofChange exploreShowsSpec)

/-- ITS FALSE NEIGHBOUR: 'it returns false'. Refute it at one input. -/
def exploreShowsWrong : ChangeSpec := { name := "exploreShows", fn := fun _ => fun
  | [d1, d2] => { results := [.lit (.bool false)], args := [d1, d2] }
  | _ => none }
def ExploreShowsWrongFalsely : Prop := exploreShowsRow.holds Try.pinned (OpenSpec.ofChange exploreShowsWrong)

/- THE SECOND FORM. 'bulk': how many values and letters a reading holds, each counted each time it is reached (what is shared counts as often as it is met; a slice's spare places count too). A statement '..UptoSaid' is the law's where the arguments, and the package variables that the reading takes, are together of bulk at most 1048576: NARROWER than '..Said'. Prove '..Said' where nothing that the law and all that it calls make is longer than what came in: it says more and counts as full. Else prove '..UptoSaid'. A law counts once. -/
mutual
def uptoBulk {H : Type} : DataW H → Nat
  | .lit (.string bytes) => bytes.length + 1
  | .lit _ => 1
  | .nil => 1
  | .ptr d => uptoBulk d + 1
  | .slice elems spare => uptoBulkAll elems + uptoBulkAll spare + 1
  | .agg parts => uptoBulkAll parts + 1
  | .iface _ d => uptoBulk d + 1
  | .map entries => uptoBulkEntries entries + 1
  | .held _ => 1
def uptoBulkAll {H : Type} : List (DataW H) → Nat
  | [] => 0
  | d :: r => uptoBulk d + uptoBulkAll r
def uptoBulkEntries {H : Type} : List (Lit × DataW H) → Nat
  | [] => 0
  | x :: r => uptoBulkEntry x + uptoBulkEntries r
def uptoBulkEntry {H : Type} : Lit × DataW H → Nat
  | (.string bytes, d) => bytes.length + uptoBulk d + 1
  | (_, d) => uptoBulk d + 1
 end
def uptoSmall : (H : Type) → List (DataW H) → Bool := fun _ ds => decide (uptoBulkAll ds ≤ 1048576)
def OpenSpec.upto (s : _root_.Go.ChangeSpec) : _root_.Go.OpenSpec := { _root_.Go.OpenSpec.ofChange s with cond := some uptoSmall }

/-- 'skeinlaw27.ExploreAll', WHERE WHAT IT READS IS OF BULK AT MOST 1048576: true; the input reads as it did. -/
def exploreAllUptoRow : OpenClaim := { program := "ytmpgjnindbklaaa", sum := "efe344fba0d31f41f50a289fb284e4aa910a5e75e9c15a751f02858e31eb5c68", func := "skein/skeinlaw27.ExploreAll", spec := "exploreAll", unfollowed := true, recurses := true, plainKeys := false, apart := false, narrowed := true }
def ExploreAllUptoSaid : Prop := exploreAllUptoRow.holds Try.pinned (OpenSpec.upto exploreAllSpec)

/-- 'skeinlaw27.ExploreTurned', WHERE WHAT IT READS IS OF BULK AT MOST 1048576: true; the input reads as it did. -/
def exploreTurnedUptoRow : OpenClaim := { program := "ytmpgjnindbklaaa", sum := "efe344fba0d31f41f50a289fb284e4aa910a5e75e9c15a751f02858e31eb5c68", func := "skein/skeinlaw27.ExploreTurned", spec := "exploreTurned", unfollowed := true, recurses := true, plainKeys := false, apart := false, narrowed := true }
def ExploreTurnedUptoSaid : Prop := exploreTurnedUptoRow.holds Try.pinned (OpenSpec.upto exploreTurnedSpec)

/-- 'skeinlaw27.ExploreFollows', WHERE WHAT IT READS IS OF BULK AT MOST 1048576: true; the input reads as it did. -/
def exploreFollowsUptoRow : OpenClaim := { program := "ytmpgjnindbklaaa", sum := "efe344fba0d31f41f50a289fb284e4aa910a5e75e9c15a751f02858e31eb5c68", func := "skein/skeinlaw27.ExploreFollows", spec := "exploreFollows", unfollowed := true, recurses := true, plainKeys := false, apart := false, narrowed := true }
def ExploreFollowsUptoSaid : Prop := exploreFollowsUptoRow.holds Try.pinned (OpenSpec.upto exploreFollowsSpec)

/-- 'skeinlaw27.ExploreShows', WHERE WHAT IT READS IS OF BULK AT MOST 1048576: true; the input reads as it did. -/
def exploreShowsUptoRow : OpenClaim := { program := "ytmpgjnindbklaaa", sum := "efe344fba0d31f41f50a289fb284e4aa910a5e75e9c15a751f02858e31eb5c68", func := "skein/skeinlaw27.ExploreShows", spec := "exploreShows", unfollowed := true, recurses := true, plainKeys := false, apart := false, narrowed := true }
def ExploreShowsUptoSaid : Prop := exploreShowsUptoRow.holds Try.pinned (OpenSpec.upto exploreShowsSpec)

end Rows
end Go.Proofs.Ytmpgjnindbklaaa
